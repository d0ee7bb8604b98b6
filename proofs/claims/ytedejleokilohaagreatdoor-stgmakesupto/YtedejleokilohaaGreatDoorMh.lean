/- A part of the proof: Y7, Y9, D0, D3, I1, I2, I3, I4, I5, I6, I7, I8, I9, I10, D2, I11, F0, I12, J9, X4, E0, S1. Names and spaces are cut short by program. -/
import Derived.Test.YtedejleokilohaaGreatDoorMg
import Derived.Lib.AtoiTie
import Derived.Lib.ItoaMem
set_option linter.unusedSimpArgs false
set_option linter.unusedVariables false
set_option maxRecDepth 10000
set_option maxHeartbeats 4000000
namespace Go.Proofs.YtedejleokilohaaGreatDoor
open Go
def td (s:aI) (p:Ex×List aI):Nat:=if s∈p.2 then 0 else fX s p.1
theorem xy (s:aI):∀ l:List Bd,oB s l=(l.map fun b=>fX s b.e).sum
 |[]=>rfl
 |b::r=>by simp only[oB,List.map_cons,List.sum_cons,xy s r,r9]
theorem xA (s:aI):∀ l:List Ex,oC s l=(l.map (fX s)).sum
 |[]=>rfl
 |e::r=>by simp only[oC,List.map_cons,List.sum_cons,xA s r]
theorem xu (s:aI) (c:Prop) [Decidable c]:∀ l:List Al,lW s c l=(l.map fun a=>if s∈a.names∨c then 0 else fX s a.body).sum
 |[]=>rfl
 |e::r=>by simp only[lW,List.map_cons,List.sum_cons,xu s c r,r8]
theorem sR {α:Type} {f:α→Nat}:∀ {l:List α},(∀ x∈l,f x=0)→(l.map f).sum=0
 |[],_=>rfl
 |x::l,h=>by rw[List.map_cons,List.sum_cons,h x (List.mem_cons_self ..),sR fun y hy=>h y (List.mem_cons_of_mem _ hy)]
theorem mK {α:Type} {f g:α→Nat}:∀ {l:List α},(∀ x∈l,f x=g x)→(l.map f).sum=(l.map g).sum
 |[],_=>rfl
 |x::l,h=>by rw[List.map_cons,List.sum_cons,List.map_cons,List.sum_cons,h x (List.mem_cons_self ..),mK fun y hy=>h y (List.mem_cons_of_mem _ hy)]
theorem Bm (s:aI) {kd:Int} {nm:aI} {nn op:Int} {names:List aI} {ad:List Ex} {binds:List Bd} {alts:List Al} (hk:kd≠1) (h6:kd≠6→alts=[]):
 fX s (.mk kd nm nn op names ad binds alts)=((aR (.mk kd nm nn op names ad binds alts)).map (td s)).sum:=by
 rw[aR,List.map_append,List.map_append,List.sum_append,List.sum_append,List.map_map,List.map_map,List.map_map]
 by_cases ho:s∈cT kd names binds
 ·have hk6:kd≠6:=fun e=>by subst e;simp[cT] at ho
  rw[h6 hk6,fX,if_neg hk,if_pos ho,sR (fun x _=>by simp[td,ho]),sR (fun x _=>by simp[td,ho])]
  rfl
 ·rw[fX,if_neg hk,if_neg ho,xA,xy,xu,Nat.add_assoc]
  congr 1
  ·exact mK fun x _=>by simp[td,ho]
  ·congr 1
   ·exact mK fun x _=>by simp[td,ho]
   ·refine mK fun a _=>?_
    by_cases h:kd=6
    ·simp[td,h,eq_comm]
    ·simp[td,h]
theorem xC (e:Ex):e.parts=(aR e).map Prod.fst:=by
 obtain⟨kd,nm,nn,op,names,ad,binds,alts⟩:=e
 rw[Ex.dn,aR]
 simp[Function.comp_def]
theorem sT (s:aI):∀ (m:Nat) (e:Ex) (st:BO),e.wt≤m→BR m e→(∀ t,0≤cK st.1 t)→(s∈(dN m e st).2↔s∈st.2∨(cK st.1 s=0∧0<fX s e))
 |0,e,st,h,_,_=>absurd e.bz (by omega)
 |m+1,e,st,hm,hs,hc=>by
  obtain⟨h6,_,hp⟩:=hs
  rw[dN]
  by_cases hk:e.kind=1
  ·rw[if_pos hk]
   obtain⟨kd,nm,nn,op,names,ad,binds,alts⟩:=e
   rw[fX,if_pos (show kd=1 from hk)]
   by_cases hz:cK st.1 nm=0
   ·rw[if_pos (show cK st.1 (Ex.mk kd nm nn op names ad binds alts).name=0 from hz)]
    show s∈j9 st.2 nm↔_
    simp only[j9]
    by_cases hns:nm=s
    ·subst hns
     simp only[if_true]
     split<;>simp_all
    ·simp only[if_neg hns,Nat.lt_irrefl,and_false,or_false]
     split
     ·rfl
     ·simp[show s≠nm from fun e=>hns e.symm]
   ·rw[if_neg (show ¬ cK st.1 (Ex.mk kd nm nn op names ad binds alts).name=0 from hz)]
    by_cases hns:nm=s
    ·subst hns;simp[hz]
    ·simp[hns]
  ·rw[if_neg hk]
   have ho:fX s e=((aR e).map (td s)).sum:=by
    obtain⟨kd,nm,nn,op,names,ad,binds,alts⟩:=e
    exact Bm s hk h6
   have hw:∀ p∈aR e,p.1.wt≤m∧BR m p.1:=fun p h=>by
    have:=sD h
    exact⟨by omega,hp _ (by rw[xC];exact List.mem_map_of_mem h)⟩
   rw[ho]
   clear ho hm hp h6 hk
   generalize aR e=l at hw
   induction l generalizing st with
   |nil=>simp
   |cons p l ih=>
    have hpw:=hw p (List.mem_cons_self ..)
    have hci:∀ t,0≤cK (jx st.1 p.2) t:=fun t=>by rw[gM];have:=hc t;omega
    have h1:=sT s m p.1 (jx st.1 p.2,st.2) hpw.1 hpw.2 hci
    have h3:s∈(l.foldl (fo (dN m)) (fo (dN m) st p)).2↔(s∈(fo (dN m) st p).2∨(cK (fo (dN m) st p).1 s=0∧0<(l.map (td s)).sum)):=ih (fo (dN m) st p) (fun t=>by rw[mu];exact hc t) (fun q hq=>hw q (List.mem_cons_of_mem _ hq))
    rw[List.foldl_cons,h3,mu,List.map_cons,List.sum_cons]
    have h2:(fo (dN m) st p).2=(dN m p.1 (jx st.1 p.2,st.2)).2:=rfl
    rw[h2,h1]
    simp only
    rw[gM,td]
    have hcs:=hc s
    by_cases hsn:s∈p.2
    ·have:=List.count_pos_iff.2 hsn
     rw[if_pos hsn]
     constructor
     ·rintro ((h|h)|h)
      ·exact .inl h
      ·omega
      ·exact .inr ⟨h.1,by omega⟩
     ·rintro (h|h)
      ·exact .inl (.inl h)
      ·exact .inr ⟨h.1,by omega⟩
    ·have:=List.count_eq_zero.2 hsn
     rw[if_neg hsn,this]
     constructor
     ·rintro ((h|h)|h)
      ·exact .inl h
      ·exact .inr ⟨by omega,by omega⟩
      ·exact .inr ⟨h.1,by omega⟩
     ·rintro (h|h)
      ·exact .inl (.inl h)
      ·by_cases h0:0<fX s p.1
       ·exact .inl (.inr ⟨by omega,h0⟩)
       ·exact .inr ⟨h.1,by omega⟩
theorem A0 (s:aI) (e:Ex) (hs:BR e.wt e):s∈cz e↔0<fX s e:=by
 rw[cz,(gm _).mem_iff,sT s e.wt e ([],[]) (Nat.le_refl _) hs (fun t=>by simp[cK])]
 simp[cK]
theorem CM:∀ l:List Ex,(l.map Ex.wt).sum≤bt l
 |[]=>Nat.le_refl _
 |x::l=>by simp only[List.map_cons,List.sum_cons,bt];have:=CM l;omega
theorem Cf:∀ l:List Bd,((l.map Bd.e).map Ex.wt).sum≤aW l
 |[]=>Nat.le_refl _
 |x::l=>by simp only[List.map_cons,List.sum_cons,aW];have:=Cf l;have:=x.cZ;omega
theorem B8:∀ l:List Al,((l.map Al.body).map Ex.wt).sum≤cp l
 |[]=>Nat.le_refl _
 |x::l=>by simp only[List.map_cons,List.sum_cons,cp];have:=B8 l;have:=x.cZ;omega
theorem xD (e:Ex):1+(e.parts.map Ex.wt).sum≤e.wt:=by
 obtain⟨kd,nm,nn,op,names,ad,binds,alts⟩:=e
 rw[Ex.dn,List.map_append,List.map_append,List.sum_append,List.sum_append,Ex.wt]
 have:=CM ad
 have:=Cf binds
 have:=B8 alts
 omega
theorem Ed {α:Type} {f g:α→Nat}:∀ {l:List α},(∀ x∈l,f x≤g x)→(l.map f).sum≤(l.map g).sum
 |[],_=>Nat.le_refl _
 |x::l,h=>by
  have h1:=h x (List.mem_cons_self ..)
  have h2:=Ed fun y hy=>h y (List.mem_cons_of_mem _ hy)
  simp only[List.map_cons,List.sum_cons];omega
theorem iN:∀ (m:Nat) (e:Ex),e.wt≤m→e.size≤e.wt
 |0,e,h=>absurd e.bz (by omega)
 |m+1,e,h=>by
  rw[e.nz]
  have h1:=xD e
  have h2:=Ed (f:=Ex.size) (g:=Ex.wt) (l:=e.parts) fun p hp=>iN m p (by have:=Ex.cU hp;omega)
  omega
def gh (l:List Nat):Nat:=l.foldl max 0
theorem rU (l:List Nat) (x:Nat):gh (l++[x])=max (gh l) x:=by simp[gh,List.foldl_append]
theorem qA {n:Nat}:∀ {l:List Nat},(∀ x∈l,x≤n)→gh l≤n:=by
 intro l h
 have key:∀ (l:List Nat) (a:Nat),a≤n→(∀ x∈l,x≤n)→l.foldl max a≤n:=by
  intro l
  induction l with
  |nil=>intro a ha _;exact ha
  |cons x r ih=>intro a ha h;exact ih _ (Nat.max_le.2 ⟨ha,h x (List.mem_cons_self ..)⟩) (fun y hy=>h y (List.mem_cons_of_mem _ hy))
 exact key l 0 (Nat.zero_le _) h
def fY:Nat→Ex→Nat
 |0,_=>0
 |m+1,e=>gh (e.parts.map (fY m))+1
theorem kF:∀ (m:Nat) (e:Ex),fY m e≤m
 |0,_=>Nat.le_refl _
 |m+1,e=>by
  have:=qA (n:=m) (l:=e.parts.map (fY m)) (fun x hx=>by
   obtain⟨p,_,rfl⟩:=List.mem_map.1 hx
   exact kF m p)
  unfold fY
  omega
theorem tB:∀ (m m':Nat) (e:Ex),e.wt≤m→e.wt≤m'→fY m e=fY m' e
 |0,_,e,h,_=>absurd e.bz (by omega)
 |m+1,0,e,_,h=>absurd e.bz (by omega)
 |m+1,m'+1,e,h,h'=>by
  unfold fY
  rw[List.map_congr_left (g:=fY m') fun p hp=>tB m m' p (by have:=Ex.cU hp;omega) (by have:=Ex.cU hp;omega)]
def dep (e:Ex):Nat:=fY e.wt e
theorem tD (e:Ex):dep e=gh (e.parts.map dep)+1:=by
 have hp:=e.bz
 obtain⟨m,hm⟩:∃ m,e.wt=m+1:=⟨e.wt - 1,by omega⟩
 unfold dep
 rw[hm,fY,List.map_congr_left (g:=fun p=>fY p.wt p) fun p hp=>tB m p.wt p (by have:=Ex.cU hp;omega) (Nat.le_refl _)]
def eo:Nat→Ex→List aI
 |0,_=>[]
 |m+1,.mk kd nm _ _ names ad binds alts=>(if kd=3 then names else [])++ad.flatMap (eo m)++binds.flatMap (fun b=>b.name::eo m b.e)++(if kd=6 then [nm] else [])++alts.flatMap (fun a=>a.names++eo m a.body)
theorem lG {α:Type} {f:α→List aI} {g:List α→Nat} {w:α→Nat} (h0:g []=0) (h1:∀ x l,g (x::l)=w x+g l):∀ {l:List α},(∀ x∈l,(f x).length≤w x)→(l.flatMap f).length≤g l
 |[],_=>by simp
 |x::r,h=>by
  have h2:=lG (l:=r) h0 h1 (fun y hy=>h y (List.mem_cons_of_mem _ hy))
  have h3:=h x (List.mem_cons_self ..)
  rw[List.flatMap_cons,List.length_append,h1]
  omega
theorem dR:∀ (m:Nat) (e:Ex),(eo m e).length≤e.wt
 |0,e=>by simp[eo]
 |m+1,.mk kd nm nn op names ad binds alts=>by
  have h1:(ad.flatMap (eo m)).length≤bt ad:=lG (w:=Ex.wt) rfl (fun _ _=>rfl) fun x _=>dR m x
  have h2:(binds.flatMap (fun b=>b.name::eo m b.e)).length≤aW binds:=lG (w:=Bd.wt) rfl (fun _ _=>rfl) fun b _=>by
   have:=dR m b.e
   have:=b.cZ
   simp only[List.length_cons];omega
  have h3:(alts.flatMap (fun a=>a.names++eo m a.body)).length≤cp alts:=lG (w:=Al.wt) rfl (fun _ _=>rfl) fun a _=>by
   have:=dR m a.body
   obtain⟨k,s,n,l,e⟩:=a
   have:=ea l
   simp only[Al.wt,Al.names,Al.body,List.length_append] at*;omega
  have h4:=ea names
  have h5:(if kd=3 then names else []).length≤names.length:=by split<;>simp
  have h6:(if kd=6 then [nm] else []).length≤1:=by split<;>simp
  simp only[eo,List.length_append,Ex.wt]
  omega
def ym (e:Ex):List aI:=eo e.wt e
theorem uw:∀ (m:Nat) (e:Ex) (st:BO),st.2.Nodup→(dN m e st).2.Nodup
 |0,e,st,h=>by simpa [dN] using h
 |m+1,e,st,h=>by
  rw[dN]
  split
  ·split
   ·exact zc h _
   ·exact h
  ·generalize aR e=l
   induction l generalizing st with
   |nil=>exact h
   |cons p l ih=>exact ih _ (uw m p.1 (jx st.1 p.2,st.2) h)
theorem CO (e:Ex):(cz e).Pairwise (fun x y=>x<y):=by
 have tr:∀ a b c:List UInt8,(decide (a≤b))=true→(decide (b≤c))=true→(decide (a≤c))=true:=fun a b c h1 h2=>by simp only[decide_eq_true_eq] at*;exact List.le_trans h1 h2
 have to:∀ a b:List UInt8,(decide (a≤b)||decide (b≤a))=true:=fun a b=>by simp only[Bool.or_eq_true,decide_eq_true_eq];exact List.le_total a b
 have h1:(cz e).Pairwise (fun x y:List UInt8=>(decide (x≤y))=true):=List.pairwise_mergeSort tr to _
 have h2:(cz e).Nodup:=(gm _).nodup_iff.2 (uw _ e ([],[]) List.nodup_nil)
 refine List.pairwise_iff_getElem.2 fun i j hi hj hij=>?_
 have h:=List.pairwise_iff_getElem.1 h1 i j hi hj hij
 have hn:=List.pairwise_iff_getElem.1 h2 i j hi hj hij
 generalize (cz e)[i]=a at*
 generalize (cz e)[j]=b at*
 have h:a≤b:=of_decide_eq_true h
 rcases Classical.em (a<b) with h3|h3
 ·exact h3
 ·exact(hn (List.le_antisymm h h3)).elim
theorem gB {α:Type} (f:α→List aI) (pre:List aI) (l:List α):∃ L:Nat→List aI,L 0=pre∧(∀ (i:Nat) (h:i<l.length),L (i+1)=L i++f l[i])∧(∀ i,(L i).length≤(pre++l.flatMap f).length)∧L l.length=pre++l.flatMap f:=by
 refine⟨fun i=>pre++(l.take i).flatMap f,by simp,fun i h=>?_,fun i=>?_,by simp⟩
 ·simp only[List.take_succ_eq_append_getElem h,List.flatMap_append,List.flatMap_cons,List.flatMap_nil,List.append_nil,List.append_assoc]
 ·have h:l.flatMap f=(l.take i).flatMap f++(l.drop i).flatMap f:=by rw[← List.flatMap_append,List.take_append_drop]
  simp only[h,List.length_append];omega
def KI (G:Gl) (m:Nat):Prop:=∀ (e:Ex) (H:List az),e.wt≤m→e.wt<4294967296→ag Tryz.prog G 81 [e.sv] H (fun r H'=>H'=H++[.cells 0 1 ((eo m e).map .str)]∧r= .sl H.length 0 0 (eo m e).length)
theorem qR (G:Gl) (hG:aw G):∀ m,KI G m
 |0,e,H,h,_=>absurd e.bz (by omega)
 |m+1,e,H,hm,hw0=>by
  have hrec:=qR G hG m
  obtain⟨kd,nm,nn,op,names,ad,binds,alts⟩:=e
  have hle:=Ex.cY kd nm nn op names ad binds alts
  have hln:=dR (m+1) (.mk kd nm nn op names ad binds alts)
  have hpw:∀ p∈(Ex.mk kd nm nn op names ad binds alts).parts,p.wt≤m∧p.wt<4294967296:=fun p hp=>by have:=Ex.cU hp;exact⟨by omega,by omega⟩
  rw[Ex.dn] at hpw
  have eb:eo (m+1) (.mk kd nm nn op names ad binds alts)=(if kd=3 then names else [])++ad.flatMap (eo m)++binds.flatMap (fun b=>b.name::eo m b.e)++(if kd=6 then [nm] else [])++alts.flatMap (fun a=>a.names++eo m a.body):=rfl
  rw[eb] at hln ⊢
  clear eb
  have h3n:(if kd=3 then names else []).length≤names.length:=by split<;>simp
  generalize hl0:(if kd=3 then names else [])=l0 at*
  generalize hl5:(if kd=6 then [nm] else [])=l5 at*
  obtain⟨L1,a1,a2,a3,a4⟩:=gB (eo m) l0 ad
  rw[← a4] at hln ⊢
  obtain⟨L2,b1,b2,b3,b4⟩:=gB (fun b:Bd=>b.name::eo m b.e) (L1 ad.length) binds
  rw[← b4] at hln ⊢
  obtain⟨L4,d1,d2,d3,d4⟩:=gB (fun a:Al=>a.names++eo m a.body) (L2 binds.length++l5) alts
  rw[← d4] at hln ⊢
  rw[← a4] at a3
  rw[← b4] at b3
  rw[← d4] at d3
  have q4:(L2 binds.length).length+l5.length≤(L4 alts.length).length:=by have:=d3 0;rw[d1,List.length_append] at this;exact this
  have q2:(L1 ad.length).length≤(L2 binds.length).length:=by have:=b3 0;rw[b1] at this;exact this
  generalize hW:(Ex.mk kd nm nn op names ad binds alts).wt=W at*
  refine ag.aK TB [3] aF _ Tryz.func81 rfl (by decide) Tryz.ntmps81 (by simp) rfl (by simp only[au,Nat.reduceAdd];rfl) fun C R' hR hC hcl hB=>?_;have X:=aO;have hC':=congrArg List.length hC
  (refine jD ?_;with_reducible repeat' first|exact trivial|(apply af.mk<;>intro hb)|apply ax.mk)
  refine eT (fun _:Unit=>[(1,.ptr H.length 0 0 0),(3,.sl (H.length+1) 0 0 l0.length)]) (fun _=>H++[.cells 0 8 [.agg [.int .i64 kd,.str nm,.int .i64 nn,.int .i64 op,.list 1 (names.map .str),.list 8 (aj ad),.list 9 (ao binds),.list 12 (aA alts)]],.cells 0 1 (l0.map .str)]) (fun _=>True) (fun K hK=>?_) (fun _ _=>?_)
  ·(refine bP ?_;with_reducible repeat' first|exact trivial|(apply af.mk<;>intro hb)|apply ax.mk)
   ·refine hK _ _ () trivial ?_
    rw[if_pos hb] at hl0
    subst hl0
    exact bB (n0:=H.length) [(H.length,0),(H.length+1,0)] hG hB hC' hcl
   ·refine hK _ _ () trivial ?_
    rw[if_neg hb] at hl0
    subst hl0
    simp only[List.length_nil,List.map_nil]
    exact bB (n0:=H.length) [(H.length,0),(H.length+1,0)] hG hB hC' hcl
  (refine bP ?_;with_reducible repeat' first|exact trivial|(apply af.mk<;>intro hb)|apply ax.mk)
  refine aC (fun i:Nat=>[(1,.ptr H.length 0 0 0),(3,.sl (H.length+1) 0 0 (L1 i).length),(18,.list 8 (aj ad)),(19,.int .i64 ad.length),(20,.int .i64 i)])
   (fun i=>H++[.cells 0 8 [.agg [.int .i64 kd,.str nm,.int .i64 nn,.int .i64 op,.list 1 (names.map .str),.list 8 (aj ad),.list 9 (ao binds),.list 12 (aA alts)]],.cells 0 1 ((L1 i).map .str)]) (fun i=>ad.length - i) (fun i=>i≤ad.length) 0 (Nat.zero_le _) ?_ ?_
  ·rw[a1]
   exact Wk.sub (by simp[bR,look])
  rintro K i hi hK
  rcases Nat.lt_or_ge i ad.length with hlt|hge
  ·have c1:=fun H=>hrec ad[i] H (hpw _ (by simp)).1 (hpw _ (by simp)).2
   have e1:=a2 i hlt
   have e2:=a3 (i+1)
   have e3:=a3 i
   have e4:=dR m ad[i]
   have e5:=(hpw ad[i] (by simp)).2
   rw[e1,List.length_append] at e2
   generalize eo m ad[i]=l at*
   generalize L1 i=l1 at*
   have X:=And.intro aO (show(l1.map SV.str).length=l1.length∧(l.map SV.str).length=l.length from⟨List.length_map ..,List.length_map ..⟩)
   (refine run ?_;with_reducible repeat' first|exact trivial|(apply af.mk<;>intro hb)|apply ax.mk)
   refine hK _ _ (i+1) (by omega) (by omega) ?_
   rw[e1,List.map_append,show(l1++l).length=l1.length+l.length from List.length_append ..]
   exact bB (n0:=H.length) [(H.length,0),(H.length+1,0)] hG hB hC' hcl
  obtain rfl:i=ad.length:=by omega
  clear hK
  (refine bP ?_;with_reducible repeat' first|exact trivial|(apply af.mk<;>intro hb)|apply ax.mk)
  refine aC (fun i:Nat=>[(1,.ptr H.length 0 0 0),(3,.sl (H.length+1) 0 0 (L2 i).length),(30,.list 9 (ao binds)),(31,.int .i64 binds.length),(32,.int .i64 i)])
   (fun i=>H++[.cells 0 8 [.agg [.int .i64 kd,.str nm,.int .i64 nn,.int .i64 op,.list 1 (names.map .str),.list 8 (aj ad),.list 9 (ao binds),.list 12 (aA alts)]],.cells 0 1 ((L2 i).map .str)]) (fun i=>binds.length - i) (fun i=>i≤binds.length) 0 (Nat.zero_le _) ?_ ?_
  ·rw[b1]
   exact Wk.sub (by simp[bR,look])
  rintro K i hi hK
  rcases Nat.lt_or_ge i binds.length with hlt|hge
  ·have hpb:=hpw binds[i].e (by simp;exact .inr (.inl ⟨_,List.getElem_mem hlt,rfl⟩))
   have c1:=fun H=>hrec binds[i].e H hpb.1 hpb.2
   have e1:=b2 i hlt
   have e2:=b3 (i+1)
   have e3:=b3 i
   have e4:=dR m binds[i].e
   rw[e1,List.length_append] at e2
   simp only[List.length_cons] at e2
   generalize eo m binds[i].e=l at*
   generalize L2 i=l1 at*
   have X:=And.intro aO (show(l1.map SV.str).length=l1.length∧(l.map SV.str).length=l.length from⟨List.length_map ..,List.length_map ..⟩)
   (refine run ?_;with_reducible repeat' first|exact trivial|(apply af.mk<;>intro hb)|apply ax.mk)
   refine hK _ _ (i+1) (by omega) (by omega) ?_
   rw[e1,List.map_append,List.map_cons,show(l1++binds[i].name::l).length=l1.length+(1+l.length) from by simp;omega]
   exact bB (n0:=H.length) [(H.length,0),(H.length+1,0)] hG hB hC' hcl
  obtain rfl:i=binds.length:=by omega
  clear hK
  (refine jD ?_;with_reducible repeat' first|exact trivial|(apply af.mk<;>intro hb)|apply ax.mk)
  refine gV rfl (by omega) ?_
  (refine jD ?_;with_reducible repeat' first|exact trivial|(apply af.mk<;>intro hb)|apply ax.mk)
  refine eT (fun _:Unit=>[(1,.ptr H.length 0 0 0),(3,.sl (H.length+1) 0 0 (L2 binds.length++l5).length)]) (fun _=>H++[.cells 0 8 [.agg [.int .i64 kd,.str nm,.int .i64 nn,.int .i64 op,.list 1 (names.map .str),.list 8 (aj ad),.list 9 (ao binds),.list 12 (aA alts)]],.cells 0 1 ((L2 binds.length++l5).map .str)]) (fun _=>True) (fun K hK=>?_) (fun _ _=>?_)
  ·have X:=And.intro aO (show((L2 binds.length).map SV.str).length=(L2 binds.length).length from List.length_map ..)
   (refine bP ?_;with_reducible repeat' first|exact trivial|(apply af.mk<;>intro hb)|apply ax.mk)
   ·refine hK _ _ () trivial ?_
    rw[if_pos hb] at hl5
    subst hl5
    rw[List.map_append,List.length_append,List.length_singleton]
    exact bB (n0:=H.length) [(H.length,0),(H.length+1,0)] hG hB hC' hcl
   ·refine hK _ _ () trivial ?_
    rw[if_neg hb] at hl5
    subst hl5
    rw[List.append_nil]
    exact bB (n0:=H.length) [(H.length,0),(H.length+1,0)] hG hB hC' hcl
  (refine bP ?_;with_reducible repeat' first|exact trivial|(apply af.mk<;>intro hb)|apply ax.mk)
  refine aC (fun i:Nat=>[(1,.ptr H.length 0 0 0),(3,.sl (H.length+1) 0 0 (L4 i).length),(55,.list 12 (aA alts)),(56,.int .i64 alts.length),(57,.int .i64 i)])
   (fun i=>H++[.cells 0 8 [.agg [.int .i64 kd,.str nm,.int .i64 nn,.int .i64 op,.list 1 (names.map .str),.list 8 (aj ad),.list 9 (ao binds),.list 12 (aA alts)]],.cells 0 1 ((L4 i).map .str)]) (fun i=>alts.length - i) (fun i=>i≤alts.length) 0 (Nat.zero_le _) ?_ ?_
  ·rw[d1]
   exact Wk.sub (by simp[bR,look])
  rintro K i hi hK
  rcases Nat.lt_or_ge i alts.length with hlt|hge
  ·have hpb:=hpw alts[i].body (by simp;exact .inr (.inr ⟨_,List.getElem_mem hlt,rfl⟩))
   have c1:=fun H=>hrec alts[i].body H hpb.1 hpb.2
   have e1:=d2 i hlt
   have e2:=d3 (i+1)
   have e3:=d3 i
   have e4:=dR m alts[i].body
   rw[e1,List.length_append] at e2
   simp only[List.length_append] at e2
   generalize eo m alts[i].body=l at*
   generalize L4 i=l1 at*
   have X:=And.intro aO (show(l1.map SV.str).length=l1.length∧(l.map SV.str).length=l.length from⟨List.length_map ..,List.length_map ..⟩)
   (refine run ?_;with_reducible repeat' first|exact trivial|(apply af.mk<;>intro hb)|apply ax.mk)
   refine hK _ _ (i+1) (by omega) (by omega) ?_
   rw[e1,List.map_append,List.map_append,show(l1++(alts[i].names++l)).length=l1.length+(alts[i].names.length+l.length) from by simp]
   exact bB (n0:=H.length) [(H.length,0),(H.length+1,0)] hG hB hC' hcl
  obtain rfl:i=alts.length:=by omega
  clear hK
  (refine bP ?_;with_reducible repeat' first|exact trivial|(apply af.mk<;>intro hb)|apply ax.mk)
  exact jv [(H.length+1,0)] (.sl H.length 0 0 (L4 alts.length).length) [.cells 0 1 ((L4 alts.length).map .str)] hR hC' hcl ⟨rfl,rfl⟩
structure Cn where
 name:aI
 arity:Int
 tag:Int
 family:Int
deriving DecidableEq,Inhabited
def Cn.cells (c:Cn):List SV:=[.str c.name,.int .i64 c.arity,.int .i64 c.tag,.int .i64 c.family]
def Cn.sv (c:Cn):SV:= .agg c.cells
def aQ (l:List Cn):List SV:=l.map Cn.sv
structure Pg where
 cons:List Cn
 binds:List Bd
def Pg.cells (p:Pg):List SV:=[.list 4 (aQ p.cons),.list 9 (ao p.binds)]
def Pg.sv (p:Pg):SV:= .agg p.cells
theorem fL (l:List Cn):(aQ l).length=l.length:=by simp[aQ]
theorem gA (l:List Cn) {i:Nat} (h:i<l.length):(aQ l)[i]? =some (.agg l[i].cells):=by simp[aQ,h,Cn.sv]
theorem uN (l:List Cn) (i:Nat):(aQ l)[i]? =l[i]?.map fun c=> .agg [.str c.name,.int .i64 c.arity,.int .i64 c.tag,.int .i64 c.family]:=by simp[aQ,Cn.sv,Cn.cells];rfl
attribute [go_sem] fL uN
theorem bN (n:Nat) (l:List Cn):SV.aB n (aQ l)=true:=SV.bX fun _ _=>by simp[Cn.sv,Cn.cells,SV.under,SV.aB]
theorem Cn.aH (c:Cn):c.cells.length=4:=rfl
def dF:Nat→(Ex→Bool)→Ex→Bool
 |0,_,_=>true
 |m+1,p,e=>p e&&e.parts.all (dF m p)
theorem tk (p:Ex→Bool):∀ (m m':Nat) (e:Ex),e.wt≤m→e.wt≤m'→dF m p e=dF m' p e
 |0,_,e,h,_=>absurd e.bz (by omega)
 |m+1,0,e,_,h=>absurd e.bz (by omega)
 |m+1,m'+1,e,h,h'=>by
  have h1:e.parts.all (dF m p)=e.parts.all (dF m' p):=by
   rw[Bool.eq_iff_iff,List.all_eq_true,List.all_eq_true]
   refine forall_congr' fun x=>forall_congr' fun hx=>?_
   have:=Ex.cU hx
   rw[tk p m m' x (by omega) (by omega)]
  rw[dF,dF,h1]
def dP (p:Ex→Bool) (e:Ex):Bool:=dF e.wt p e
theorem qp (p:Ex→Bool) (e:Ex):dP p e=(p e&&e.parts.all (dP p)):=by
 have hp:=e.bz
 obtain⟨m,hm⟩:∃ m,e.wt=m+1:=⟨e.wt - 1,by omega⟩
 have h1:e.parts.all (dF m p)=e.parts.all (dP p):=by
  rw[Bool.eq_iff_iff,List.all_eq_true,List.all_eq_true]
  refine forall_congr' fun x=>forall_congr' fun hx=>?_
  have:=Ex.cU hx
  rw[dP,tk p m x.wt x (by omega) (Nat.le_refl _)]
 rw[dP,hm,dF,h1]
def mM (op:Int):Int:=if 1≤op∧op≤8 then 2 else if op=10 then 1 else if op=9∨op=11 then 0 else -1
def fz (a:Al):Bool:=if a.kind=1 then !decide (a.n=0) else if a.kind=2 then (!decide (a.name=[])||decide (0<a.names.length)) else if a.kind=3 then (!decide (a.name=[])||decide (0<a.names.length)||!decide (a.n=0)) else true
def ln (name names binds alts op n:Bool) (ad:Int):Ex→Bool
 | .mk kd nm nn o ns ss bs als=>(!name&&!decide (nm=[]))||(!names&&decide (0<ns.length))||(!binds&&decide (0<bs.length))||(!alts&&decide (0<als.length))||(!op&&!decide (o=0))||(op&&decide (mM o<0))||(!n&&!decide (nn=0))||(decide (0≤ad)&&!decide ((ss.length:Int)=ad))
def eY (e:Ex):Bool:=
 if e.kind=1 then !ln true false false false false false 0 e&&!(e.alts.any fz)
 else if e.kind=2 then !ln false false false false false true 0 e&&!(e.alts.any fz)
 else if e.kind=3 then !ln false true false false false false 1 e&&!(e.alts.any fz)
 else if e.kind=4 then !ln false false false false false false (-1) e&&!(e.alts.any fz)
 else if e.kind=5 then !ln false false true false false false 1 e&&!(e.alts.any fz)
 else if e.kind=6 then !ln true false false true false false 1 e&&!(e.alts.any fz)
 else if e.kind=7 then !ln true false false false false false (-1) e&&!(e.alts.any fz)
 else if e.kind=8 then !ln false false false false true false (-1) e&&!(e.alts.any fz)
 else false
def qy (l:List Cn):List (SV×SV):=l.map fun c=>(.str c.name,c.sv)
def ck:List Cn→aI→Option Cn
 |[],_=>none
 |c::r,s=>if s=c.name then some c else ck r s
def Im:Cn:=⟨[],0,0,0⟩
def b8 (l:List Cn) (s:aI):Cn:=(ck l s).getD Im
theorem nj:∀ (l:List Cn) (s:aI),cM (qy l) (.str s)=(ck l s).map Cn.sv
 |[],s=>rfl
 |c::r,s=>by
  simp only[qy,List.map_cons,cM,SV.fD,ck]
  by_cases h:s=c.name
  ·simp[h]
  ·simp only[beq_eq_false_iff_ne.2 h,h,if_false,Bool.false_eq_true]
   exact nj r s
theorem wQ (l:List Cn) (s:aI):(cM (qy l) (.str s)).getD (.agg [.str [],.int .i64 0,.int .i64 0,.int .i64 0])= .agg (b8 l s).cells:=by
 rw[nj,b8]
 cases ck l s<;>rfl
theorem zM (l:List Cn) (s:aI):(cM (qy l) (.str s)).isSome=(ck l s).isSome:=by
 rw[nj];cases ck l s<;>rfl
theorem uk:∀ (l:List Cn) (c:Cn),ck l c.name=none→dw (qy l) (.str c.name) (.agg c.cells)=qy (l++[c])
 |[],c,_=>rfl
 |d::r,c,h=>by
  simp only[qy,List.map_cons,dw,SV.fD,ck,List.cons_append] at h ⊢
  by_cases h2:c.name=d.name
  ·rw[if_pos h2] at h;cases h
  ·rw[if_neg h2] at h
   simp only[beq_eq_false_iff_ne.2 h2,if_false,Bool.false_eq_true]
   rw[show dw (List.map _ r) (.str c.name) (.agg c.cells)=_ from uk r c h]
   rfl
theorem tE (n:Nat):∀ l:List Cn,dX n (qy l)=true
 |[]=>rfl
 |p::l=>by simp only[qy,List.map_cons,dX,SV.under,SV.aB,Cn.sv,Cn.cells,Bool.and_self,Bool.true_and];exact tE n l
def Gb (a b:aI):Bool:=decide (a=b)
def lp (l:List Cn) (c:Cn):Bool:=!((ck l c.name).isSome||Gb c.name []||decide (c.arity<0)||decide (100<c.arity)||decide (c.family<1)||decide (1000<c.family)||decide (c.tag<0)||decide (c.family≤c.tag))
def gF:List Cn→List Cn→Bool
 |_,[]=>true
 |l,c::r=>lp l c&&gF (l++[c]) r
theorem tY:∀ (r l:List Cn),gF l r=(List.range r.length).all fun i=>lp (l++r.take i) (r.getD i Im)
 |[],l=>rfl
 |c::r,l=>by
  rw[gF,tY r,List.length_cons,List.range_succ_eq_map,List.all_cons,List.all_map]
  simp[Function.comp_def]
def ld (l:List Cn) (s:aI) (k:Int):Bool:=(ck l s).isSome&&decide ((b8 l s).arity=k)
def ll (l:List Cn) (e:Ex):Bool:=
 if e.kind=3 then decide (0<e.names.length) else if e.kind=4 then decide (1<e.ad.length) else if e.kind=5 then decide (0<e.binds.length)
 else if e.kind=7 then ld l e.name e.ad.length else if e.kind=8 then decide ((e.ad.length:Int)=mM e.op)
 else !(e.alts.any fun a=>decide (a.kind=1)&&!ld l a.name a.names.length)
def gH (l:List Al):List Al:=if l.length=0 then l else if ((l.getLast?.map Al.kind).getD 0)=3 then l.take (l.length - 1) else l
def lf (cs:List Cn) (l:List Al) (k0:Int) (s0:aI) (a:Al):Bool:=
 decide (a.kind=3)||!decide (a.kind=k0)||(decide (a.name∈l.map Al.name)&&decide (a.kind=1))||(decide (a.n∈l.map Al.n)&&decide (a.kind=2))||(decide (a.kind=1)&&!decide ((b8 cs a.name).family=(b8 cs s0).family))
def gK (cs:List Cn) (k0:Int) (s0:aI):List Al→List Al→Bool
 |_,[]=>false
 |l,a::r=>lf cs l k0 s0 a||gK cs k0 s0 (l++[a]) r
def C9 (l:List Al):Int:=(l.head?.map Al.kind).getD 0
def Da (l:List Al):aI:=(l.head?.map Al.name).getD []
def lx (cs:List Cn) (e:Ex):Bool:=if e.kind≠6 then true else !gK cs (C9 (gH e.alts)) (Da (gH e.alts)) [] (gH e.alts)&&decide (0<e.alts.length)
def mO:List Cn:=[⟨[80,114,105,109,46,70,97,108,115,101],0,0,2⟩,⟨[80,114,105,109,46,84,114,117,101],0,1,2⟩,⟨[80,114,105,109,46,40,41],0,0,1⟩,⟨[80,114,105,109,46,66,111,120],1,0,1⟩]
def lT (l:List Cn):Bool:=mO.all fun c=>decide (b8 l c.name=c)
def bj (l:List Bd):List aI:=l.flatMap fun b=>b.name::ym b.e
def dE (l:List aI):Nat→List aI
 |0=>[]
 |m+1=>if 0<m∧l.getD m []=l.getD (m - 1) [] then dE l m else dE l m++[l.getD m []]
def o8 (l:List aI):List aI:=dE l l.length
def dm (l:List Bd):Bool:=(decide (0<(bj l).length)&&Gb ((eC (bj l)).getD 0 []) [])||decide ((o8 (eC (bj l))).length≠(bj l).length)
def fP (l:List Bd):List (aI×Int):=l.foldl (fun t b=>ny t b.name 1) []
def mN (t:List (aI×Int)) (b:Bd):Bool:=decide ((dN b.e.wt b.e (t,[])).2.length=0)
def lV:aI:=[77,97,105,110,46,109,97,105,110]
def eg (l:List Bd):Nat:=(l.map fun b=>b.e.size).sum
def im (l:List Bd):Nat:=gh (l.map fun b=>dep b.e)
def cV (p:Pg):Int:=
 if 100000<eg p.binds then 3 else if 1000<im p.binds then 4
 else if !(p.binds.all fun b=>dP eY b.e) then 120
 else if !gF [] p.cons then 121
 else if dm p.binds then 122
 else if !(p.binds.all (mN (fP p.binds))) then 123
 else if !(lT p.cons&&p.binds.all fun b=>dP (ll p.cons) b.e) then 124
 else if !(p.binds.all fun b=>dP (lx p.cons) b.e) then 125
 else if cK (fP p.binds) lV=0 then 126 else 0
theorem rE {α:Type} (p:α→Bool) (l:List α):(match l.findIdx? p with|some i=>decide (0≤(i:Int))|none=>false)=l.any p:=by
 cases h:l.findIdx? p with
 |none=>rw[List.findIdx?_eq_none_iff] at h;simp only;symm;rw[List.any_eq_false];intro x hx;simp[h x hx]
 |some i=>
  obtain⟨hi,hp,_⟩:=List.findIdx?_eq_some_iff_getElem.1 h
  have:(0:Int)≤i:=by omega
  simp only[this,decide_true]
  symm;rw[List.any_eq_true]
  exact⟨_,List.getElem_mem hi,hp⟩
theorem qO (G:Gl) (hG:aw G) (f:SV) (p:Bd→Bool) (V:List Bd) (H:List az) (hl:V.length<1125899906842624) (hfu:f.under H.length=true)
 (hf:∀ x∈V,bL Tryz.prog G f [x.sv] H (fun r H'=>H'=H∧r= .bool (p x))):
 ag Tryz.prog G 30 [.list 9 (ao V),f] H (fun r H'=>H'=H∧r= .bool (V.any p)):=by
 have hidx:ag Tryz.prog G 79 [.list 9 (ao V),f] H (fun r H'=>H'=H∧r= .int .i64 (match V.findIdx? p with|some i=>(i:Int)|none=> -1)):=by
  have hlm:(ao V).length=V.length:=by rw[cr,List.length_map]
  refine ag.aK TB [] aF _ Tryz.func79 rfl (by decide) Tryz.ntmps79 (by simp) rfl (by simp only[au,Nat.reduceAdd];rfl) fun C R' hR hC hcl hB=>?_;have X:=aO;have hC':=congrArg List.length hC
  have X:=And.intro X hlm
  have hcl1:=hcl
  (refine run ?_;with_reducible repeat' first|exact trivial|(apply af.mk<;>intro hb)|apply ax.mk)
  refine aC (fun k:Nat=>[(0,.list 9 (ao V)),(1,f),(7,.int .i64 V.length),(8,.int .i64 k)]) (fun _=>H) (fun k=>V.length - k) (fun k=>k≤V.length∧∀ x∈V.take k,p x=false) 0 ⟨Nat.zero_le _,by simp⟩ (Wk.sub (by simp[bR,look])) ?_
  rintro K k ⟨hk,hno⟩ hK
  rcases Nat.lt_or_ge k V.length with hlt|hge
  ·have e1:(ao V)[k]? =some (.agg V[k].cells):=by simp[cr,hlt,Bd.sv]
   have hfk:=hf V[k] (List.getElem_mem hlt)
   have hsv:V[k].sv= .agg V[k].cells:=rfl
   rw[hsv] at hfk
   have X:=And.intro X e1
   (refine run ?_;with_reducible repeat' first|exact trivial|(apply af.mk<;>intro hb)|apply ax.mk)
   refine fB hfk ?_
   rintro r H' ⟨rfl,rfl⟩
   (refine run ?_;with_reducible repeat' first|exact trivial|(apply af.mk<;>intro hb)|apply ax.mk)
   ·have hfi:V.findIdx? p=some k:=by
     rw[List.findIdx?_eq_some_iff_getElem]
     refine⟨hlt,by simpa using hb,fun j hj=>?_⟩
     have:=hno (V[j]'(by omega)) (by rw[List.mem_take_iff_getElem];exact⟨j,by omega,rfl⟩)
     simp[this]
    refine Fin.out hR ⟨rfl,?_⟩
    simp only[bA,hfi]
   ·refine hK _ _ (k+1) (by omega) ⟨by omega,?_⟩ (Wk.sub (by simp[bR,look]))
    rw[List.take_succ_eq_append_getElem hlt]
    intro x hx
    rcases List.mem_append.1 hx with hx|hx
    ·exact hno x hx
    ·rw[List.mem_singleton.1 hx];exact hb
  ·have:k=V.length:=by omega
   subst this
   clear hK
   have X:=And.intro X (Int.lt_irrefl (V.length:Int))
   (refine run ?_;with_reducible repeat' first|exact trivial|(apply af.mk<;>intro hb)|apply ax.mk)
   have hfi:V.findIdx? p=none:=by rw[List.findIdx?_eq_none_iff];rw[List.take_length] at hno;exact hno
   refine Fin.out hR ⟨rfl,?_⟩
   simp only[bA,hfi]
 have h2:=rE p V
 generalize hI:(match V.findIdx? p with|some i=>(i:Int)|none=> -1)=I at hidx
 refine ag.aK TB [] aF _ Tryz.func30 rfl (by decide) Tryz.ntmps30 (by simp) rfl (by simp only[au,Nat.reduceAdd];rfl) fun C R' hR hC hcl hB=>?_;have X:=aO;have hC':=congrArg List.length hC
 (refine run ?_;with_reducible repeat' first|exact trivial|(apply af.mk<;>intro hb)|apply ax.mk)
 refine bh hidx ?_
 rintro r H' ⟨rfl,rfl⟩
 (refine run ?_;with_reducible repeat' first|exact trivial|(apply af.mk<;>intro hb)|apply ax.mk)
 refine Fin.out hR ⟨rfl,?_⟩
 rw[← h2,← hI]
 simp only[bA]
 cases V.findIdx? p with
 |none=>rfl
 |some i=>rfl
theorem vQ (G:Gl) (hG:aw G) (f:SV) (p:Al→Bool) (V:List Al) (H:List az) (hl:V.length<1125899906842624) (hfu:f.under H.length=true)
 (hf:∀ x∈V,bL Tryz.prog G f [x.sv] H (fun r H'=>H'=H∧r= .bool (p x))):
 ag Tryz.prog G 88 [.list 12 (aA V),f] H (fun r H'=>H'=H∧r= .bool (V.any p)):=by
 have hidx:ag Tryz.prog G 134 [.list 12 (aA V),f] H (fun r H'=>H'=H∧r= .int .i64 (match V.findIdx? p with|some i=>(i:Int)|none=> -1)):=by
  have hlm:(aA V).length=V.length:=by rw[dC,List.length_map]
  refine ag.aK TB [] aF _ Tryz.func134 rfl (by decide) Tryz.ntmps134 (by simp) rfl (by simp only[au,Nat.reduceAdd];rfl) fun C R' hR hC hcl hB=>?_;have X:=aO;have hC':=congrArg List.length hC
  have X:=And.intro X hlm
  have hcl1:=hcl
  (refine run ?_;with_reducible repeat' first|exact trivial|(apply af.mk<;>intro hb)|apply ax.mk)
  refine aC (fun k:Nat=>[(0,.list 12 (aA V)),(1,f),(7,.int .i64 V.length),(8,.int .i64 k)]) (fun _=>H) (fun k=>V.length - k) (fun k=>k≤V.length∧∀ x∈V.take k,p x=false) 0 ⟨Nat.zero_le _,by simp⟩ (Wk.sub (by simp[bR,look])) ?_
  rintro K k ⟨hk,hno⟩ hK
  rcases Nat.lt_or_ge k V.length with hlt|hge
  ·have e1:(aA V)[k]? =some (.agg V[k].cells):=by simp[dC,hlt,Al.sv]
   have hfk:=hf V[k] (List.getElem_mem hlt)
   have hsv:V[k].sv= .agg V[k].cells:=rfl
   rw[hsv] at hfk
   have X:=And.intro X e1
   (refine run ?_;with_reducible repeat' first|exact trivial|(apply af.mk<;>intro hb)|apply ax.mk)
   refine fB hfk ?_
   rintro r H' ⟨rfl,rfl⟩
   (refine run ?_;with_reducible repeat' first|exact trivial|(apply af.mk<;>intro hb)|apply ax.mk)
   ·have hfi:V.findIdx? p=some k:=by
     rw[List.findIdx?_eq_some_iff_getElem]
     refine⟨hlt,by simpa using hb,fun j hj=>?_⟩
     have:=hno (V[j]'(by omega)) (by rw[List.mem_take_iff_getElem];exact⟨j,by omega,rfl⟩)
     simp[this]
    refine Fin.out hR ⟨rfl,?_⟩
    simp only[bA,hfi]
   ·refine hK _ _ (k+1) (by omega) ⟨by omega,?_⟩ (Wk.sub (by simp[bR,look]))
    rw[List.take_succ_eq_append_getElem hlt]
    intro x hx
    rcases List.mem_append.1 hx with hx|hx
    ·exact hno x hx
    ·rw[List.mem_singleton.1 hx];exact hb
  ·have:k=V.length:=by omega
   subst this
   clear hK
   have X:=And.intro X (Int.lt_irrefl (V.length:Int))
   (refine run ?_;with_reducible repeat' first|exact trivial|(apply af.mk<;>intro hb)|apply ax.mk)
   have hfi:V.findIdx? p=none:=by rw[List.findIdx?_eq_none_iff];rw[List.take_length] at hno;exact hno
   refine Fin.out hR ⟨rfl,?_⟩
   simp only[bA,hfi]
 have h2:=rE p V
 generalize hI:(match V.findIdx? p with|some i=>(i:Int)|none=> -1)=I at hidx
 refine ag.aK TB [] aF _ Tryz.func88 rfl (by decide) Tryz.ntmps88 (by simp) rfl (by simp only[au,Nat.reduceAdd];rfl) fun C R' hR hC hcl hB=>?_;have X:=aO;have hC':=congrArg List.length hC
 (refine run ?_;with_reducible repeat' first|exact trivial|(apply af.mk<;>intro hb)|apply ax.mk)
 refine bh hidx ?_
 rintro r H' ⟨rfl,rfl⟩
 (refine run ?_;with_reducible repeat' first|exact trivial|(apply af.mk<;>intro hb)|apply ax.mk)
 refine Fin.out hR ⟨rfl,?_⟩
 rw[← h2,← hI]
 simp only[bA]
 cases V.findIdx? p with
 |none=>rfl
 |some i=>rfl
theorem B9 (G:Gl) (hG:aw G) (f:SV) (p:Ex→Bool) (V:List Ex) (H:List az) (hl:V.length<1125899906842624) (hfu:f.under H.length=true)
 (hf:∀ x∈V,bL Tryz.prog G f [x.sv] H (fun r H'=>H'=H∧r= .bool (p x))):
 ag Tryz.prog G 97 [.list 8 (aj V),f] H (fun r H'=>H'=H∧r= .bool (V.any p)):=by
 have hidx:ag Tryz.prog G 136 [.list 8 (aj V),f] H (fun r H'=>H'=H∧r= .int .i64 (match V.findIdx? p with|some i=>(i:Int)|none=> -1)):=by
  have hlm:(aj V).length=V.length:=by rw[bQ,List.length_map]
  refine ag.aK TB [] aF _ Tryz.func136 rfl (by decide) Tryz.ntmps136 (by simp) rfl (by simp only[au,Nat.reduceAdd];rfl) fun C R' hR hC hcl hB=>?_;have X:=aO;have hC':=congrArg List.length hC
  have X:=And.intro X hlm
  have hcl1:=hcl
  (refine run ?_;with_reducible repeat' first|exact trivial|(apply af.mk<;>intro hb)|apply ax.mk)
  refine aC (fun k:Nat=>[(0,.list 8 (aj V)),(1,f),(7,.int .i64 V.length),(8,.int .i64 k)]) (fun _=>H) (fun k=>V.length - k) (fun k=>k≤V.length∧∀ x∈V.take k,p x=false) 0 ⟨Nat.zero_le _,by simp⟩ (Wk.sub (by simp[bR,look])) ?_
  rintro K k ⟨hk,hno⟩ hK
  rcases Nat.lt_or_ge k V.length with hlt|hge
  ·have e1:(aj V)[k]? =some (.agg V[k].cells):=by simp[bQ,hlt,Ex.sv]
   have hfk:=hf V[k] (List.getElem_mem hlt)
   have hsv:V[k].sv= .agg V[k].cells:=rfl
   rw[hsv] at hfk
   have X:=And.intro X e1
   (refine run ?_;with_reducible repeat' first|exact trivial|(apply af.mk<;>intro hb)|apply ax.mk)
   refine fB hfk ?_
   rintro r H' ⟨rfl,rfl⟩
   (refine run ?_;with_reducible repeat' first|exact trivial|(apply af.mk<;>intro hb)|apply ax.mk)
   ·have hfi:V.findIdx? p=some k:=by
     rw[List.findIdx?_eq_some_iff_getElem]
     refine⟨hlt,by simpa using hb,fun j hj=>?_⟩
     have:=hno (V[j]'(by omega)) (by rw[List.mem_take_iff_getElem];exact⟨j,by omega,rfl⟩)
     simp[this]
    refine Fin.out hR ⟨rfl,?_⟩
    simp only[bA,hfi]
   ·refine hK _ _ (k+1) (by omega) ⟨by omega,?_⟩ (Wk.sub (by simp[bR,look]))
    rw[List.take_succ_eq_append_getElem hlt]
    intro x hx
    rcases List.mem_append.1 hx with hx|hx
    ·exact hno x hx
    ·rw[List.mem_singleton.1 hx];exact hb
  ·have:k=V.length:=by omega
   subst this
   clear hK
   have X:=And.intro X (Int.lt_irrefl (V.length:Int))
   (refine run ?_;with_reducible repeat' first|exact trivial|(apply af.mk<;>intro hb)|apply ax.mk)
   have hfi:V.findIdx? p=none:=by rw[List.findIdx?_eq_none_iff];rw[List.take_length] at hno;exact hno
   refine Fin.out hR ⟨rfl,?_⟩
   simp only[bA,hfi]
 have h2:=rE p V
 generalize hI:(match V.findIdx? p with|some i=>(i:Int)|none=> -1)=I at hidx
 refine ag.aK TB [] aF _ Tryz.func97 rfl (by decide) Tryz.ntmps97 (by simp) rfl (by simp only[au,Nat.reduceAdd];rfl) fun C R' hR hC hcl hB=>?_;have X:=aO;have hC':=congrArg List.length hC
 (refine run ?_;with_reducible repeat' first|exact trivial|(apply af.mk<;>intro hb)|apply ax.mk)
 refine bh hidx ?_
 rintro r H' ⟨rfl,rfl⟩
 (refine run ?_;with_reducible repeat' first|exact trivial|(apply af.mk<;>intro hb)|apply ax.mk)
 refine Fin.out hR ⟨rfl,?_⟩
 rw[← h2,← hI]
 simp only[bA]
 cases V.findIdx? p with
 |none=>rfl
 |some i=>rfl
theorem CF (G:Gl) (hG:aw G) (e:Ex) (hw:e.wt<549755813888) (fv:SV) (p:Ex→Bool) (H:List az) (hfu:fv.under H.length=true)
 (hy:∀ x∈e.parts,∀ X,bL Tryz.prog G fv [x.sv] (H++X) (fun r H'=>H'=H++X∧r= .bool (p x))):
 ag Tryz.prog G 77 [e.sv,fv] H (fun r H'=>H'=H∧r= .bool (e.parts.all p)):=by
 obtain⟨kd,nm,nn,op,names,ad,binds,alts⟩:=e
 have hle:=Ex.cY kd nm nn op names ad binds alts
 rw[Ex.dn] at hy ⊢
 rw[List.all_append,List.all_append,List.all_map,List.all_map]
 have p1:∀ i (h:i<ad.length),ad[i]∈ad++(binds.map Bd.e++alts.map Al.body):=fun i h=>List.mem_append_left _ (List.getElem_mem h)
 have p2:∀ i (h:i<binds.length),binds[i].e∈ad++(binds.map Bd.e++alts.map Al.body):=fun i h=>List.mem_append_right _ (List.mem_append_left _ (List.mem_map.2 ⟨_,List.getElem_mem h,rfl⟩))
 have p3:∀ i (h:i<alts.length),alts[i].body∈ad++(binds.map Bd.e++alts.map Al.body):=fun i h=>List.mem_append_right _ (List.mem_append_right _ (List.mem_map.2 ⟨_,List.getElem_mem h,rfl⟩))
 refine ag.aK TB [] aF _ Tryz.func77 rfl (by decide) Tryz.ntmps77 (by simp) rfl (by simp only[au,Nat.reduceAdd];rfl) fun C R' hR hC hcl hB=>?_;have X:=aO;have hC':=congrArg List.length hC
 have X:=aO
 (refine bP ?_;with_reducible repeat' first|exact trivial|(apply af.mk<;>intro hb)|apply ax.mk)
 refine aC (fun i:Nat=>[(1,fv),(2,.ptr H.length 0 0 0),(12,.list 8 (aj ad)),(13,.int .i64 ad.length),(14,.int .i64 i)])
  (fun i=>H++[.cells 0 8 [.agg [.int .i64 kd,.str nm,.int .i64 nn,.int .i64 op,.list 1 (names.map .str),.list 8 (aj ad),.list 9 (ao binds),.list 12 (aA alts)]]]) (fun i=>ad.length - i) (fun i=>i≤ad.length∧∀ x∈ad.take i,p x=true) 0 ⟨Nat.zero_le _,by simp⟩ ?_ ?_
 ·exact bB (n0:=H.length) [(H.length,0)] hG hB hC' hcl
 rintro K i ⟨hi,hno⟩ hK
 rcases Nat.lt_or_ge i ad.length with hlt|hge
 ·(refine bP ?_;with_reducible repeat' first|exact trivial|(apply af.mk<;>intro hb)|apply ax.mk)
  refine fB (hy _ (p1 i (by omega)) _) ?_
  rintro r H' ⟨rfl,rfl⟩
  generalize hpv:p ad[i]=pv
  cases pv
  ·have ef:ad.all p=false:=by rw[List.all_eq_false];exact⟨_,List.getElem_mem hlt,by simp[hpv]⟩
   (refine bP ?_;with_reducible repeat' first|exact trivial|(apply af.mk<;>intro hb)|apply ax.mk)
   exact aS (n0:=H.length) hR hC' hcl (.same _ rfl) ⟨rfl,by simp[ef,bA]⟩
  ·(refine bP ?_;with_reducible repeat' first|exact trivial|(apply af.mk<;>intro hb)|apply ax.mk)
   refine hK _ _ (i+1) (by omega) ⟨by omega,?_⟩ ?_
   ·rw[List.take_succ_eq_append_getElem hlt]
    intro x hx
    rcases List.mem_append.1 hx with hx|hx
    ·exact hno x hx
    ·rw[List.mem_singleton.1 hx];exact hpv
   ·exact bB (n0:=H.length) [(H.length,0)] hG hB hC' hcl
 obtain rfl:i=ad.length:=by omega
 rw[List.take_length] at hno
 have e1:ad.all p=true:=List.all_eq_true.2 hno
 rw[e1,Bool.true_and] at hR
 clear hK hno
 (refine bP ?_;with_reducible repeat' first|exact trivial|(apply af.mk<;>intro hb)|apply ax.mk)
 refine aC (fun i:Nat=>[(1,fv),(2,.ptr H.length 0 0 0),(24,.list 9 (ao binds)),(25,.int .i64 binds.length),(26,.int .i64 i)])
  (fun i=>H++[.cells 0 8 [.agg [.int .i64 kd,.str nm,.int .i64 nn,.int .i64 op,.list 1 (names.map .str),.list 8 (aj ad),.list 9 (ao binds),.list 12 (aA alts)]]]) (fun i=>binds.length - i) (fun i=>i≤binds.length∧∀ x∈binds.take i,p x.e=true) 0 ⟨Nat.zero_le _,by simp⟩ ?_ ?_
 ·exact bB (n0:=H.length) [(H.length,0)] hG hB hC' hcl
 rintro K i ⟨hi,hno⟩ hK
 rcases Nat.lt_or_ge i binds.length with hlt|hge
 ·(refine bP ?_;with_reducible repeat' first|exact trivial|(apply af.mk<;>intro hb)|apply ax.mk)
  refine fB (hy _ (p2 i (by omega)) _) ?_
  rintro r H' ⟨rfl,rfl⟩
  generalize hpv:p binds[i].e=pv
  cases pv
  ·have ef:binds.all (p∘Bd.e)=false:=by rw[List.all_eq_false];exact⟨_,List.getElem_mem hlt,by simp[hpv]⟩
   (refine bP ?_;with_reducible repeat' first|exact trivial|(apply af.mk<;>intro hb)|apply ax.mk)
   exact aS (n0:=H.length) hR hC' hcl (.same _ rfl) ⟨rfl,by simp[ef,bA]⟩
  ·(refine bP ?_;with_reducible repeat' first|exact trivial|(apply af.mk<;>intro hb)|apply ax.mk)
   refine hK _ _ (i+1) (by omega) ⟨by omega,?_⟩ ?_
   ·rw[List.take_succ_eq_append_getElem hlt]
    intro x hx
    rcases List.mem_append.1 hx with hx|hx
    ·exact hno x hx
    ·rw[List.mem_singleton.1 hx];exact hpv
   ·exact bB (n0:=H.length) [(H.length,0)] hG hB hC' hcl
 obtain rfl:i=binds.length:=by omega
 rw[List.take_length] at hno
 have e2:binds.all (p∘Bd.e)=true:=List.all_eq_true.2 hno
 rw[e2,Bool.true_and] at hR
 clear hK hno
 (refine bP ?_;with_reducible repeat' first|exact trivial|(apply af.mk<;>intro hb)|apply ax.mk)
 refine aC (fun i:Nat=>[(1,fv),(2,.ptr H.length 0 0 0),(37,.list 12 (aA alts)),(38,.int .i64 alts.length),(39,.int .i64 i)])
  (fun i=>H++[.cells 0 8 [.agg [.int .i64 kd,.str nm,.int .i64 nn,.int .i64 op,.list 1 (names.map .str),.list 8 (aj ad),.list 9 (ao binds),.list 12 (aA alts)]]]) (fun i=>alts.length - i) (fun i=>i≤alts.length∧∀ x∈alts.take i,p x.body=true) 0 ⟨Nat.zero_le _,by simp⟩ ?_ ?_
 ·exact bB (n0:=H.length) [(H.length,0)] hG hB hC' hcl
 rintro K i ⟨hi,hno⟩ hK
 rcases Nat.lt_or_ge i alts.length with hlt|hge
 ·(refine bP ?_;with_reducible repeat' first|exact trivial|(apply af.mk<;>intro hb)|apply ax.mk)
  refine fB (hy _ (p3 i (by omega)) _) ?_
  rintro r H' ⟨rfl,rfl⟩
  generalize hpv:p alts[i].body=pv
  cases pv
  ·have ef:alts.all (p∘Al.body)=false:=by rw[List.all_eq_false];exact⟨_,List.getElem_mem hlt,by simp[hpv]⟩
   (refine bP ?_;with_reducible repeat' first|exact trivial|(apply af.mk<;>intro hb)|apply ax.mk)
   exact aS (n0:=H.length) hR hC' hcl (.same _ rfl) ⟨rfl,by simp[ef,bA]⟩
  ·(refine bP ?_;with_reducible repeat' first|exact trivial|(apply af.mk<;>intro hb)|apply ax.mk)
   refine hK _ _ (i+1) (by omega) ⟨by omega,?_⟩ ?_
   ·rw[List.take_succ_eq_append_getElem hlt]
    intro x hx
    rcases List.mem_append.1 hx with hx|hx
    ·exact hno x hx
    ·rw[List.mem_singleton.1 hx];exact hpv
   ·exact bB (n0:=H.length) [(H.length,0)] hG hB hC' hcl
 obtain rfl:i=alts.length:=by omega
 rw[List.take_length] at hno
 have e3:alts.all (p∘Al.body)=true:=List.all_eq_true.2 hno
 rw[e3] at hR
 clear hK hno
 (refine bP ?_;with_reducible repeat' first|exact trivial|(apply af.mk<;>intro hb)|apply ax.mk)
 exact aS (n0:=H.length) hR hC' hcl (.same _ rfl) ⟨rfl,rfl⟩
def s5 (G:Gl) (fid:FuncId) (fi ca:List SV) (p:Ex→Bool) (H:List az) (m:Nat):Prop:=∀ x:Ex,x.wt≤m→∀ X,bL Tryz.prog G (.fn (.func fid) fi ca) [x.sv] (H++X) (fun r H'=>H'=H++X∧r= .bool (p x))
theorem s5.app {G:Gl} {fid:FuncId} {fi ca:List SV} {p:Ex→Bool} {H:List az} {m:Nat} (h:s5 G fid fi ca p H m) (L:List az):s5 G fid fi ca p (H++L) m:=fun x hx X=>by rw[List.append_assoc];exact h x hx _
def HK (G:Gl) (fid:FuncId) (fi ca:List SV) (p:Ex→Bool) (m:Nat):Prop:=∀ (e:Ex) (H:List az),e.wt≤m→(SV.fn (.func fid) fi ca).under H.length=true→s5 G fid fi ca p H m→
 ag Tryz.prog G 32 [e.sv,.fn (.func fid) fi ca] H (fun r H'=>H'=H∧r= .bool (dP p e))
theorem B6 (G:Gl) (hG:aw G) (fid:FuncId) (fi ca:List SV) (p:Ex→Bool) (m:Nat) (hrec:HK G fid fi ca p m) (e:Ex) (H:List az) (ib:Nat) (he:e.wt≤m) (hib:H[ib]? =some (.cells 0 1 [.fn (.func fid) fi ca])) (hfu:(SV.fn (.func fid) fi ca).under H.length=true) (hy:s5 G fid fi ca p H m):
 ag Tryz.prog G 80 [e.sv,.ptr ib 0 0 0] H (fun r H'=>H'=H∧r= .bool (dP p e)):=by
 have hlt2:ib<H.length:=(List.getElem?_eq_some_iff.1 hib).1
 refine ag.aK TB [] aF _ Tryz.func80 rfl (by decide) Tryz.ntmps80 (by simp) rfl (by simp only[au,Nat.reduceAdd];rfl) fun C R' hR hC hcl hB=>?_;have X:=aO;have hC':=congrArg List.length hC
 have X:=hib
 (refine run ?_;with_reducible repeat' first|exact trivial|(apply af.mk<;>intro hb)|apply ax.mk)
 refine bh (hrec e _ he ((SV.cD (by simp)).1 _ hfu) (hy.app _)) ?_
 rintro r H' ⟨rfl,rfl⟩
 (refine run ?_;with_reducible repeat' first|exact trivial|(apply af.mk<;>intro hb)|apply ax.mk)
 exact aS (n0:=H.length) hR hC' hcl (.same _ rfl) ⟨rfl,rfl⟩
theorem s5.mono {G:Gl} {fid:FuncId} {fi ca:List SV} {p:Ex→Bool} {H:List az} {m m':Nat} (h:s5 G fid fi ca p H m) (hm:m'≤m):s5 G fid fi ca p H m':=fun x hx X=>h x (Nat.le_trans hx hm) X
theorem zB (G:Gl) (hG:aw G) (fid:FuncId) (fi ca:List SV) (p:Ex→Bool):∀ m,m<549755813888→HK G fid fi ca p m
 |0,_,e,_,h,_,_=>absurd e.bz (by omega)
 |m+1,hm2,e,H,hm,hfu,hy=>by
  have hrec:=zB G hG fid fi ca p m (by omega)
  have hae:=qp p e
  rw[hae]
  refine ag.aK TB [] aF _ Tryz.func32 rfl (by decide) Tryz.ntmps32 (by simp) rfl (by simp only[au,Nat.reduceAdd];rfl) fun C R' hR hC hcl hB=>?_;have X:=aO;have hC':=congrArg List.length hC
  (refine run ?_;with_reducible repeat' first|exact trivial|(apply af.mk<;>intro hb)|apply ax.mk)
  refine fB (hy e hm _) ?_
  rintro r H' ⟨rfl,rfl⟩
  generalize hpv:p e=pv
  cases pv
  ·(refine run ?_;with_reducible repeat' first|exact trivial|(apply af.mk<;>intro hb)|apply ax.mk)
   exact aS (n0:=H.length) hR hC' hcl (.same _ rfl) ⟨rfl,by simp[hpv,bA]⟩
  ·(refine run ?_;with_reducible repeat' first|exact trivial|(apply af.mk<;>intro hb)|apply ax.mk)
   refine bh (CF G hG e (by omega) (.fn (.func 80) [] [.ptr (H.length+1) 0 0 0]) (dP p) _ (by simp[SV.under,SV.aB]) (fun x hx X=>by
    have hpw:=Ex.cU hx
    refine bL.of (first:=[]) (args:=[x.sv]) (cap:=[.ptr (H.length+1) 0 0 0]) (B6 G hG fid fi ca p m hrec x _ (H.length+1) (by omega) (by rw[List.append_assoc];simp) ((SV.cD (by simp)).1 _ hfu) ((hy.mono (by omega)).app _|>.app _)))) ?_
   rintro r H' ⟨rfl,rfl⟩
   (refine run ?_;with_reducible repeat' first|exact trivial|(apply af.mk<;>intro hb)|apply ax.mk)
   exact aS (n0:=H.length) hR hC' hcl (.same _ rfl) ⟨rfl,by simp[hpv,bA]⟩
theorem vX (G:Gl) (op:Int) (H:List az):ag Tryz.prog G 87 [.int .i64 op] H (fun r H'=>H'=H∧r= .int .i64 (mM op)):=by
 refine ag.aK TB [] aF _ Tryz.func87 rfl (by decide) Tryz.ntmps87 (by simp) rfl (by simp only[au,Nat.reduceAdd];rfl) fun C R' hR hC hcl hB=>?_;have X:=aO;have hC':=congrArg List.length hC
 (refine run ?_;with_reducible repeat' first|exact trivial|(apply af.mk<;>intro hb)|apply ax.mk)
 all_goals (simp only[Bool.and_eq_true,Bool.or_eq_true,Bool.and_eq_false_iff,Bool.or_eq_false_iff,decide_eq_true_eq,decide_eq_false_iff_not] at*)
 all_goals refine Fin.out hR ⟨rfl,congrArg (SV.int .i64) ?_⟩
 all_goals unfold mM
 all_goals first|rw[if_pos (by omega)]|rw[if_neg (by omega),if_pos (by omega)]|rw[if_neg (by omega),if_neg (by omega),if_pos (by omega)]|rw[if_neg (by omega),if_neg (by omega),if_neg (by omega)]
theorem Ce (G:Gl) (hG:aw G) (a:Al) (H:List az):ag Tryz.prog G 89 [a.sv] H (fun r H'=>H'=H∧r= .bool (fz a)):=by
 obtain⟨kd,nm,nn,names,body⟩:=a
 have hbl:=body.aH
 obtain⟨k2,s2,n2,o2,l2,ss2,bs2,as2⟩:=body
 rw[show(Al.mk kd nm nn names (.mk k2 s2 n2 o2 l2 ss2 bs2 as2)).sv= .agg [.int .i64 kd,.str nm,.int .i64 nn,.list 1 (names.map .str),.int .i64 k2,.str s2,.int .i64 n2,.int .i64 o2,.list 1 (l2.map .str),.list 8 (aj ss2),.list 9 (ao bs2),.list 12 (aA as2)] from rfl]
 refine ag.aK TB [] aF _ Tryz.func89 rfl (by decide) Tryz.ntmps89 (by simp) rfl (by simp only[au,Nat.reduceAdd];rfl) fun C R' hR hC hcl hB=>?_;have X:=aO;have hC':=congrArg List.length hC
 (refine run ?_;with_reducible repeat' first|exact trivial|(apply af.mk<;>intro hb)|apply ax.mk)
 all_goals (refine aS (n0:=H.length) hR hC' hcl (.same _ rfl) ⟨rfl,?_⟩;simp_all [bA,fz,Al.kind,Al.n,Al.name,Al.names]<;>congr)
theorem BD (G:Gl) (hG:aw G) (e:Ex) (hw:e.wt<549755813888) (H:List az):ag Tryz.prog G 39 [e.sv] H (fun r H'=>H'=H∧r= .bool (eY e)):=by
 obtain⟨kd,nm,nn,op,names,ad,binds,alts⟩:=e
 have hle:=Ex.cY kd nm nn op names ad binds alts
 have c1:=fun H=>vX G op H
 have c2:=vQ G hG (.fn (.func 89) [] []) fz alts (H++[.cells 0 8 [.agg [.int .i64 kd,.str nm,.int .i64 nn,.int .i64 op,.list 1 (names.map .str),.list 8 (aj ad),.list 9 (ao binds),.list 12 (aA alts)]]]) (by omega) (by simp[SV.under,SV.aB])
  (fun a ha=>bL.of (first:=[]) (args:=[a.sv]) (cap:=[]) (Ce G hG a _))
 refine ag.aK TB [] aF _ Tryz.func39 rfl (by decide) Tryz.ntmps39 (by simp) rfl (by simp only[au,Nat.reduceAdd];rfl) fun C R' hR hC hcl hB=>?_;have X:=aO;have hC':=congrArg List.length hC
 (refine run ?_;with_reducible repeat' first|exact trivial|(apply af.mk<;>intro hb)|apply ax.mk)
 all_goals refine aS (n0:=H.length) hR hC' hcl (.same _ rfl) ⟨rfl,?_⟩
 all_goals refine congrArg SV.bool ?_
 all_goals clear c1 c2 hw hle hR hC' hC hcl hB X
 all_goals simp_all [eY,ln,Ex.kind,Ex.alts]
 all_goals (intros;first|omega|(exfalso;omega)|(simp_all;done)|(exfalso;simp_all;omega))
theorem iX (l:List Cn) (s:aI):(cM (qy l) (.str s)).getD (.agg [.str [],.int .i64 0,.int .i64 0,.int .i64 0])= .agg [.str (b8 l s).name,.int .i64 (b8 l s).arity,.int .i64 (b8 l s).tag,.int .i64 (b8 l s).family]:=wQ l s
structure jo (H:List az) (lb mb:Nat) (cs:List Cn):Prop where
 l:H[lb]? =some (.cells 0 1 [.agg [.map mb]])
 m:H[mb]? =some (.map none (qy cs))
theorem jo.app {H:List az} {lb mb:Nat} {cs:List Cn} (h:jo H lb mb cs) (L:List az):jo (H++L) lb mb cs:=
 ⟨by rw[du (List.getElem?_eq_some_iff.1 h.l).1];exact h.l,by rw[du (List.getElem?_eq_some_iff.1 h.m).1];exact h.m⟩
theorem jo.X {H:List az} {lb mb:Nat} {cs:List Cn} (h:jo H lb mb cs):(∀ L,(H++L)[lb]? =some (.cells 0 1 [.agg [.map mb]]))∧(∀ L,(H++L)[mb]? =some (.map none (qy cs)))∧H[lb]? =some (.cells 0 1 [.agg [.map mb]])∧H[mb]? =some (.map none (qy cs)):=
 ⟨fun L=>(h.app L).l,fun L=>(h.app L).m,h.l,h.m⟩
theorem C8 (G:Gl) (hG:aw G) (H:List az) (lb mb:Nat) (cs:List Cn) (hl:jo H lb mb cs) (s:aI) (k:Int):ag Tryz.prog G 90 [.ptr lb 0 0 0,.str s,.int .i64 k] H (fun r H'=>H'=H∧r= .bool (ld cs s k)):=by
 refine ag.aK TB [] aF _ Tryz.func90 rfl (by decide) Tryz.ntmps90 (by simp) rfl (by simp only[au,Nat.reduceAdd];rfl) fun C R' hR hC hcl hB=>?_;have X:=aO;have hC':=congrArg List.length hC
 have X:=And.intro X (And.intro hl.X (And.intro (iX cs s) (zM cs s)))
 (refine run ?_;with_reducible repeat' first|exact trivial|(apply af.mk<;>intro hb)|apply ax.mk)
 exact aS (n0:=H.length) hR hC' hcl (.same _ rfl) ⟨rfl,by simp only[bA,ld]⟩
theorem K9 {H:List az} {lb mb:Nat} {es:List (SV×SV)} (h1:H[lb]? =some (.cells 0 1 [.agg [.map mb]])) (h2:H[mb]? =some (.map none es)):
 (∀ l L,(H.set mb (.map none (qy l))++L)[lb]? =some (.cells 0 1 [.agg [.map mb]]))∧(∀ l L,(H.set mb (.map none (qy l))++L)[mb]? =some (.map none (qy l)))∧
 (∀ l l2 L,(H.set mb (.map none (qy l))++L).set mb (.map none (qy l2))=H.set mb (.map none (qy l2))++L):=by
 have hne:lb≠mb:=fun e=>by rw[e,h2] at h1;cases h1
 have l1:=(List.getElem?_eq_some_iff.1 h1).1
 have l2:=(List.getElem?_eq_some_iff.1 h2).1
 refine⟨fun l L=>?_,fun l L=>?_,fun l l2' L=>?_⟩
 ·rw[List.getElem?_append_left (by simpa using l1),List.getElem?_set_ne (fun e=>hne e.symm)];exact h1
 ·rw[List.getElem?_append_left (by simpa using l2),List.getElem?_set_self l2]
 ·rw[fV (by simpa using l2),List.set_set]
theorem K8 {H:List az} {lb mb:Nat} (h1:H[lb]? =some (.cells 0 1 [.agg [.map mb]])) (h2:H[mb]? =some (.map none [])):
 ∃ Q:List Cn→List az,Q []=H∧(∀ l,Q l=H.set mb (.map none (qy l)))∧(∀ l,(Q l).length=H.length)∧((∀ l L,(Q l++L)[lb]? =some (.cells 0 1 [.agg [.map mb]]))∧(∀ l L,(Q l++L)[mb]? =some (.map none (qy l)))∧
 (∀ l l2 L,(Q l++L).set mb (.map none (qy l2))=Q l2++L))∧(closed H→∀ l,closed (Q l)):=
 ⟨fun l=>H.set mb (.map none (qy l)),dV h2,fun l=>rfl,fun l=>by simp,K9 h1 h2,fun hc l=>hc.set (tE _ _)⟩
theorem DQ {l:List Cn} {c:Cn} (h:lp l c=true):ck l c.name=none:=by
 unfold lp at h
 cases hf:ck l c.name with
 |none=>rfl
 |some d=>rw[hf] at h;simp at h
theorem Fy (G:Gl) (hG:aw G) (H:List az) (lb mb:Nat) (cons:List Cn) (h1:H[lb]? =some (.cells 0 1 [.agg [.map mb]])) (h2:H[mb]? =some (.map none [])) (hn:cons.length<1099511627776):
 ag Tryz.prog G 40 [.ptr lb 0 0 0,.list 4 (aQ cons)] H (fun r H'=>∃ l,(H'=H.set mb (.map none (qy l))∧r= .bool (gF [] cons))∧(gF [] cons=true→l=cons)):=by
 obtain⟨Q,q0,qd,hlen,qx,qc⟩:=K8 h1 h2
 have hlm:=fL cons
 have l1:=(List.getElem?_eq_some_iff.1 h1).1
 have l2:=(List.getElem?_eq_some_iff.1 h2).1
 simp only[← qd]
 rw[← q0]
 refine ag.aK TB [] aF _ Tryz.func40 rfl (by decide) Tryz.ntmps40 (by simp) rfl (by simp only[au,Nat.reduceAdd];rfl) fun C R' hR hC hcl hB=>?_;have X:=aO;have hC':=congrArg List.length hC
 have hC':=hC'.trans (hlen [])
 have hcls:∀ l,closed (Q l):=fun l=>qc (q0 ▸ hcl) l
 generalize H.length=n0 at*
 have hx2:=Ig Q n0 hlen
 have X:=And.intro X (And.intro qx (And.intro hx2 hlm))
 (refine run ?_;with_reducible repeat' first|exact trivial|(apply af.mk<;>intro hb)|apply ax.mk)
 refine aC (fun i:Nat=>[(0,.ptr lb 0 0 0),(9,.list 4 (aQ cons)),(10,.int .i64 cons.length),(11,.int .i64 i)]) (fun i=>Q (cons.take i)++[]) (fun i=>cons.length - i)
  (fun i=>i≤cons.length∧gF (cons.take i) (cons.drop i)=gF [] cons) 0 ⟨Nat.zero_le _,rfl⟩ ?_ ?_
 ·simp only[List.take_zero,List.append_nil]
  exact Wk.sub (by simp[bR,look])
 rintro K i ⟨hi,hok⟩ hK
 rcases Nat.lt_or_ge i cons.length with hlt|hge
 ·have e1:(aQ cons)[i]? =some (.agg [.str cons[i].name,.int .i64 cons[i].arity,.int .i64 cons[i].tag,.int .i64 cons[i].family]):=gA cons hlt
  rw[List.drop_eq_getElem_cons hlt,gF,← List.take_succ_eq_append_getElem hlt] at hok
  have ht:=List.take_succ_eq_append_getElem hlt
  have hset:=uk (cons.take i) cons[i]
  have hcell:cons[i].cells=[.str cons[i].name,.int .i64 cons[i].arity,.int .i64 cons[i].tag,.int .i64 cons[i].family]:=rfl
  rw[hcell] at hset
  have hoc:lp (cons.take i) cons[i]=lp (cons.take i) cons[i]:=rfl
  conv at hoc=>rhs;unfold lp
  simp only[Gb] at hoc
  have hnw:=DQ (l:=cons.take i) (c:=cons[i])
  have hcz:=iX (cons.take i) cons[i].name
  have hch:=zM (cons.take i) cons[i].name
  generalize hok1:lp (cons.take i) cons[i]=o1 at*
  cases o1
  ·have X:=And.intro X (And.intro e1 (And.intro hcz hch))
   (refine run ?_;with_reducible repeat' first|exact trivial|(apply af.mk<;>intro hb)|apply ax.mk)
   ·rw[Bool.false_and] at hok
    refine aS (n0:=n0) hR hC' (hcls (cons.take i)) (.same _ rfl) ⟨_,⟨rfl,?_⟩,?_⟩
    ·rw[← hok];rfl
    ·rw[← hok];intro h;cases h
   ·rw[hb] at hoc;cases hoc
  ·have X:=And.intro X (And.intro e1 (And.intro hcz (And.intro hch (hset (hnw rfl)))))
   (refine run ?_;with_reducible repeat' first|exact trivial|(apply af.mk<;>intro hb)|apply ax.mk)
   ·rw[hb] at hoc;cases hoc
   ·rw[← ht]
    refine hK _ _ (i+1) (by omega) ⟨by omega,by rw[← hok,Bool.true_and]⟩ ?_
    exact bB (n0:=n0) [] hG hB hC' (hcls _)
 obtain rfl:i=cons.length:=by omega
 rw[List.drop_length,List.take_length] at hok
 rw[List.take_length]
 clear hK
 have X:=And.intro X (Int.lt_irrefl (cons.length:Int))
 (refine run ?_;with_reducible repeat' first|exact trivial|(apply af.mk<;>intro hb)|apply ax.mk)
 exact aS (n0:=n0) hR hC' (hcls cons) (.same _ rfl) ⟨_,⟨rfl,by rw[← hok];rfl⟩,fun _=>rfl⟩
theorem CP (G:Gl) (hG:aw G) (H:List az) (lb mb pb:Nat) (cs:List Cn) (hl:jo H lb mb cs) (hp:H[pb]? =some (.cells 0 1 [.ptr lb 0 0 0])) (a:Al):
 ag Tryz.prog G 91 [a.sv,.ptr pb 0 0 0] H (fun r H'=>H'=H∧r= .bool (decide (a.kind=1)&&!ld cs a.name a.names.length)):=by
 obtain⟨kd,nm,nn,names,body⟩:=a
 obtain⟨k2,s2,n2,o2,l2,ss2,bs2,as2⟩:=body
 rw[show(Al.mk kd nm nn names (.mk k2 s2 n2 o2 l2 ss2 bs2 as2)).sv= .agg [.int .i64 kd,.str nm,.int .i64 nn,.list 1 (names.map .str),.int .i64 k2,.str s2,.int .i64 n2,.int .i64 o2,.list 1 (l2.map .str),.list 8 (aj ss2),.list 9 (ao bs2),.list 12 (aA as2)] from rfl]
 have c1:=fun L=>C8 G hG (H++L) lb mb cs (hl.app L) nm names.length
 have hpx:=fun L=>(show(H++L)[pb]? =some (.cells 0 1 [.ptr lb 0 0 0]) by rw[du (List.getElem?_eq_some_iff.1 hp).1];exact hp)
 refine ag.aK TB [] aF _ Tryz.func91 rfl (by decide) Tryz.ntmps91 (by simp) rfl (by simp only[au,Nat.reduceAdd];rfl) fun C R' hR hC hcl hB=>?_;have X:=aO;have hC':=congrArg List.length hC
 have X:=And.intro X hpx
 (refine run ?_;with_reducible repeat' first|exact trivial|(apply af.mk<;>intro hb)|apply ax.mk)
 all_goals (refine aS (n0:=H.length) hR hC' hcl (.same _ rfl) ⟨rfl,?_⟩;simp_all [bA,Al.kind,Al.n,Al.name,Al.names])
theorem E8 (G:Gl) (hG:aw G) (H:List az) (lb mb:Nat) (cs:List Cn) (hl:jo H lb mb cs) (e:Ex) (hw:e.wt<549755813888):
 ag Tryz.prog G 44 [.ptr lb 0 0 0,e.sv] H (fun r H'=>H'=H∧r= .bool (ll cs e)):=by
 obtain⟨kd,nm,nn,op,names,ad,binds,alts⟩:=e
 have hle:=Ex.cY kd nm nn op names ad binds alts
 have c1:=fun L=>C8 G hG (H++L) lb mb cs (hl.app L) nm ad.length
 have c2:=fun H=>vX G op H
 have c3:=vQ G hG (.fn (.func 91) [] [.ptr H.length 0 0 0]) (fun a=>decide (a.kind=1)&&!ld cs a.name a.names.length) alts (H++[.cells 0 1 [.ptr lb 0 0 0],.cells 0 8 [.agg [.int .i64 kd,.str nm,.int .i64 nn,.int .i64 op,.list 1 (names.map .str),.list 8 (aj ad),.list 9 (ao binds),.list 12 (aA alts)]]]) (by omega) (by simp[SV.under,SV.aB])
  (fun a ha=>bL.of (first:=[]) (args:=[a.sv]) (cap:=[.ptr H.length 0 0 0]) (CP G hG _ lb mb H.length cs (hl.app _) (by simp) a))
 refine ag.aK TB [] aF _ Tryz.func44 rfl (by decide) Tryz.ntmps44 (by simp) rfl (by simp only[au,Nat.reduceAdd];rfl) fun C R' hR hC hcl hB=>?_;have X:=aO;have hC':=congrArg List.length hC
 (refine run ?_;with_reducible repeat' first|exact trivial|(apply af.mk<;>intro hb)|apply ax.mk)
 all_goals (refine aS (n0:=H.length) hR hC' hcl (.same _ rfl) ⟨rfl,?_⟩;simp_all [bA,ll,Ex.kind,Ex.names,Ex.ad,Ex.binds,Ex.name,Ex.op,Ex.alts]<;>exact decide_eq_decide.2 (by omega))
theorem DA {l:List aI} {s t:aI}:s∈j9 l t↔s∈l∨s=t:=by
 unfold j9
 split
 ·rename_i h
  constructor
  ·exact .inl
  ·rintro (h2|rfl)
   ·exact h2
   ·exact h
 ·simp
theorem rV {s:aI}:∀ {l:List aI} {a:List aI},s∈l.foldl j9 a↔s∈a∨s∈l
 |[],a=>by simp
 |t::r,a=>by
  rw[List.foldl_cons,rV (l:=r),DA,List.mem_cons]
  constructor
  ·rintro ((h|h)|h)
   ·exact .inl h
   ·exact .inr (.inl h)
   ·exact .inr (.inr h)
  ·rintro (h|h|h)
   ·exact .inl (.inl h)
   ·exact .inl (.inr h)
   ·exact .inr h
theorem kH:∀ (l:List aI) (s:aI),(cM (gT l) (.str s)).getD (.bool false)= .bool (decide (s∈l))
 |[],s=>by simp[gT,cM]
 |x::r,s=>by
  have ih:=kH r s
  have e:cM (gT (x::r)) (.str s)=if SV.fD (.str s) (.str x)=true then some (.bool true) else cM (gT r) (.str s):=rfl
  rw[e]
  by_cases h:s=x
  ·subst h
   simp[SV.fD]
  ·rw[if_neg (by simpa [SV.fD] using h),ih]
   simp[h]
def sE (l:List Al):List aI:=(l.map Al.name).foldl j9 []
theorem AV (l:List Al) (s:aI):(cM (gT (sE l)) (.str s)).getD (.bool false)= .bool (decide (s∈l.map Al.name)):=by
 rw[kH]
 congr 1
 rw[decide_eq_decide,sE,rV]
 simp
theorem BB (l:List Al) (a:Al):dw (gT (sE l)) (.str a.name) (.bool true)=gT (sE (l++[a])):=by
 rw[kl,sE,sE,List.map_append,List.foldl_append];rfl
def zb (l:List Int) (n:Int):List Int:=if n∈l then l else l++[n]
def zN (l:List Int):List (SV×SV):=l.map fun n=>(.int .i64 n,.bool true)
theorem um:∀ (l:List Int) (n:Int),dw (zN l) (.int .i64 n) (.bool true)=zN (zb l n)
 |[],n=>rfl
 |k::r,n=>by
  simp only[zN,List.map_cons,dw,SV.fD,zb]
  by_cases h:n=k
  ·simp[h]
  ·simp only[beq_eq_false_iff_ne.2 h,if_false,Bool.false_eq_true]
   rw[show dw (List.map _ r) (.int .i64 n) (.bool true)=_ from um r n]
   simp only[zN,zb,List.mem_cons,h,false_or]
   split<;>rfl
theorem Dz {l:List Int} {s t:Int}:s∈zb l t↔s∈l∨s=t:=by
 unfold zb
 split
 ·rename_i h
  constructor
  ·exact .inl
  ·rintro (h2|rfl)
   ·exact h2
   ·exact h
 ·simp
theorem tV {s:Int}:∀ {l:List Int} {a:List Int},s∈l.foldl zb a↔s∈a∨s∈l
 |[],a=>by simp
 |t::r,a=>by
  rw[List.foldl_cons,tV (l:=r),Dz,List.mem_cons]
  constructor
  ·rintro ((h|h)|h)
   ·exact .inl h
   ·exact .inr (.inl h)
   ·exact .inr (.inr h)
  ·rintro (h|h|h)
   ·exact .inl (.inl h)
   ·exact .inl (.inr h)
   ·exact .inr h
theorem rz:∀ (l:List Int) (n:Int),(cM (zN l) (.int .i64 n)).getD (.bool false)= .bool (decide (n∈l))
 |[],s=>by simp[zN,cM]
 |x::r,s=>by
  have ih:=rz r s
  have e:cM (zN (x::r)) (.int .i64 s)=if SV.fD (.int .i64 s) (.int .i64 x)=true then some (.bool true) else cM (zN r) (.int .i64 s):=rfl
  rw[e]
  by_cases h:s=x
  ·subst h
   simp[SV.fD]
  ·rw[if_neg (by simpa [SV.fD] using h),ih]
   simp[h]
def rZ (l:List Al):List Int:=(l.map Al.n).foldl zb []
theorem AU (l:List Al) (s:Int):(cM (zN (rZ l)) (.int .i64 s)).getD (.bool false)= .bool (decide (s∈l.map Al.n)):=by
 rw[rz]
 congr 1
 rw[decide_eq_decide,rZ,tV]
 simp
theorem Bl (l:List Al) (a:Al):dw (zN (rZ l)) (.int .i64 a.n) (.bool true)=zN (rZ (l++[a])):=by
 rw[um,rZ,rZ,List.map_append,List.foldl_append];rfl
theorem tF (n:Nat):∀ l:List Int,dX n (zN l)=true
 |[]=>rfl
 |p::l=>by simp only[zN,List.map_cons,dX,SV.under,Bool.and_self,Bool.true_and];exact tF n l
theorem uF (l:List Al) (n:Nat):(aA l).take n=aA (l.take n):=by simp[dC,List.map_take]
theorem sc (cs:List Cn) (k0:Int) (s0:aI) (R:List Al) {i:Nat} (h:i<R.length):gK cs k0 s0 (R.take i) (R.drop i)=(lf cs (R.take i) k0 s0 R[i]||gK cs k0 s0 (R.take (i+1)) (R.drop (i+1))):=by
 rw[List.drop_eq_getElem_cons h,gK,← List.take_succ_eq_append_getElem h]
theorem AN (G:Gl) (hG:aw G) (H:List az) (lb mb:Nat) (cs:List Cn) (hl:jo H lb mb cs) (e:Ex) (hw:e.wt<549755813888):
 ag Tryz.prog G 45 [.ptr lb 0 0 0,e.sv] H (fun r H'=>H'=H∧r= .bool (lx cs e)):=by
 obtain⟨kd,nm,nn,op,names,ad,binds,alts⟩:=e
 have hle:=Ex.cY kd nm nn op names ad binds alts
 by_cases hk:kd=6
 rotate_left
 ·have es:lx cs (.mk kd nm nn op names ad binds alts)=true:=if_pos hk
  refine ag.aK TB [] aF _ Tryz.func45 rfl (by decide) Tryz.ntmps45 (by simp) rfl (by simp only[au,Nat.reduceAdd];rfl) fun C R' hR hC hcl hB=>?_;have X:=aO;have hC':=congrArg List.length hC
  (refine jD ?_;with_reducible repeat' first|exact trivial|(apply af.mk<;>intro hb)|apply ax.mk)
  refine gd rfl hk ?_
  (refine run ?_;with_reducible repeat' first|exact trivial|(apply af.mk<;>intro hb)|apply ax.mk)
  exact aS (n0:=H.length) hR hC' hcl (.same _ rfl) ⟨rfl,by rw[es];rfl⟩
 have es:lx cs (.mk kd nm nn op names ad binds alts)=(!gK cs (C9 (gH alts)) (Da (gH alts)) [] (gH alts)&&decide (0<alts.length)):=if_neg (fun h=>h hk)
 rw[es]
 have l1:=(List.getElem?_eq_some_iff.1 hl.l).1
 have l2:=(List.getElem?_eq_some_iff.1 hl.m).1
 rcases Nat.eq_zero_or_pos alts.length with h0|hpos
 ·obtain rfl:=List.length_eq_zero_iff.1 h0
  refine ag.aK TB [] aF _ Tryz.func45 rfl (by decide) Tryz.ntmps45 (by simp) rfl (by simp only[au,Nat.reduceAdd];rfl) fun C R' hR hC hcl hB=>?_;have X:=aO;have hC':=congrArg List.length hC
  (refine jD ?_;with_reducible repeat' first|exact trivial|(apply af.mk<;>intro hb)|apply ax.mk)
  refine gV rfl (fun h=>h hk) ?_
  have X:=And.intro aO (Int.lt_irrefl 0)
  (refine run ?_;with_reducible repeat' first|exact trivial|(apply af.mk<;>intro hb)|apply ax.mk)
  refine aC (fun _:Unit=>[(3,.ptr H.length 0 0 0),(36,.int .i64 0),(37,.int .i64 0)]) (fun _=>H++[.cells 0 8 [.agg [.int .i64 kd,.str nm,.int .i64 nn,.int .i64 op,.list 1 (names.map .str),.list 8 (aj ad),.list 9 (ao binds),.list 12 (aA [])]]]) (fun _=>0) (fun _=>True) () trivial ?_ ?_
  ·exact bB (n0:=H.length) [(H.length,0)] hG hB hC' hcl
  rintro K _ _ hK
  (refine run ?_;with_reducible repeat' first|exact trivial|(apply af.mk<;>intro hb)|apply ax.mk)
  exact aS (n0:=H.length) hR hC' hcl (.same _ rfl) ⟨rfl,rfl⟩
 have hnn:((alts.length:Int) - 1).toNat=alts.length - 1:=by omega
 have hlt1:alts.length - 1<alts.length:=by omega
 have hr:gH alts=if alts[alts.length - 1].kind=3 then alts.take (alts.length - 1) else alts:=by
  rw[gH,if_neg (by omega)]
  have:alts.getLast?=some alts[alts.length - 1]:=by rw[List.getLast?_eq_getElem?,List.getElem?_eq_getElem hlt1]
  rw[this]
  rfl
 have hal:alts[alts.length - 1]? =some alts[alts.length - 1]:=List.getElem?_eq_getElem hlt1
 have hpos2:(0:Int)<(alts.length:Int):=by omega
 refine ag.aK TB [] aF _ Tryz.func45 rfl (by decide) Tryz.ntmps45 (by simp) rfl (by simp only[au,Nat.reduceAdd];rfl) fun C R' hR hC hcl hB=>?_;have X:=aO;have hC':=congrArg List.length hC
 (refine jD ?_;with_reducible repeat' first|exact trivial|(apply af.mk<;>intro hb)|apply ax.mk)
 refine gV rfl (fun h=>h hk) ?_
 have X:=And.intro aO (And.intro hnn (And.intro hal (And.intro (show alts.length - 1 - 0=alts.length - 1 from rfl) (uF alts (alts.length - 1)))))
 (refine jD ?_;with_reducible repeat' first|exact trivial|(apply af.mk<;>intro hb)|apply ax.mk)
 refine eT (fun _:Unit=>[(0,.ptr lb 0 0 0),(3,.ptr H.length 0 0 0),(5,.list 12 (aA (gH alts)))]) (fun _=>H++[.cells 0 8 [.agg [.int .i64 kd,.str nm,.int .i64 nn,.int .i64 op,.list 1 (names.map .str),.list 8 (aj ad),.list 9 (ao binds),.list 12 (aA alts)]]]) (fun _=>True) (fun K hK=>?_) (fun _ _=>?_)
 ·(refine run ?_;with_reducible repeat' first|exact trivial|(apply af.mk<;>intro hb)|apply ax.mk)
  ·refine hK _ _ () trivial ?_
   rw[hr,if_pos (by first|exact hb|simp_all)]
   exact bB (n0:=H.length) [(H.length,0)] hG hB hC' hcl
  ·refine hK _ _ () trivial ?_
   rw[hr,if_neg (by first|exact hb|simp_all)]
   exact bB (n0:=H.length) [(H.length,0)] hG hB hC' hcl
 have mv:=tF
 have hrl:(gH alts).length≤alts.length:=by
  unfold gH
  split
  ·exact Nat.le_refl _
  ·split
   ·rw[List.length_take];omega
   ·exact Nat.le_refl _
 generalize hRR:gH alts=R at*
 have X:=And.intro aO hl.X
 (refine run ?_;with_reducible repeat' first|exact trivial|(apply af.mk<;>intro hb)|apply ax.mk)
 refine aC (fun i:Nat=>[(0,.ptr lb 0 0 0),(3,.ptr H.length 0 0 0),(5,.list 12 (aA R)),(7,.map (H.length+1)),(8,.map (H.length+2)),(35,.list 12 (aA R)),(36,.int .i64 R.length),(37,.int .i64 i)])
  (fun i=>H++[.cells 0 8 [.agg [.int .i64 kd,.str nm,.int .i64 nn,.int .i64 op,.list 1 (names.map .str),.list 8 (aj ad),.list 9 (ao binds),.list 12 (aA alts)]],.map none (gT (sE (R.take i))),.map (some .i64) (zN (rZ (R.take i)))]) (fun i=>R.length - i) (fun i=>i≤R.length∧gK cs (C9 R) (Da R) (R.take i) (R.drop i)=gK cs (C9 R) (Da R) [] R) 0 ⟨Nat.zero_le _,rfl⟩ ?_ ?_
 ·exact bB (n0:=H.length) [(H.length,0),(H.length+1,0),(H.length+2,0)] hG hB hC' hcl
 rintro K i ⟨hi,ho⟩ hK
 rcases Nat.lt_or_ge i R.length with hlt|hge
 ·rw[sc cs _ _ R hlt] at ho
  have hs1:=AV (R.take i) R[i].name
  have hs2:=AU (R.take i) R[i].n
  have hs3:=BB (R.take i) R[i]
  have hs4:=Bl (R.take i) R[i]
  have hz1:=iX cs R[i].name
  have hz2:=iX cs R[0].name
  have hR0:R[0]? =some R[0]:=List.getElem?_eq_getElem (by omega)
  have hRi:R[i]? =some R[i]:=List.getElem?_eq_getElem hlt
  have hk0:C9 R=R[0].kind:=by rw[C9,List.head?_eq_getElem?,hR0];rfl
  have hn0:Da R=R[0].name:=by rw[Da,List.head?_eq_getElem?,hR0];rfl
  have ht:=List.take_succ_eq_append_getElem hlt
  rw[← ht] at hs3 hs4
  have hoc:lf cs (R.take i) (C9 R) (Da R) R[i]=lf cs (R.take i) (C9 R) (Da R) R[i]:=rfl
  conv at hoc=>rhs;unfold lf
  rw[hk0,hn0] at hoc ho
  generalize hoo:lf cs (R.take i) R[0].kind R[0].name R[i]=oo at*
  generalize R[0]=a0 at*
  generalize R[i]=ai at*
  have X:=And.intro aO (And.intro hl.X (And.intro hs1 (And.intro hs2 (And.intro hs3 (And.intro hs4 (And.intro hz1 (And.intro hz2 (And.intro hR0 hRi))))))))
  (refine run ?_;with_reducible repeat' first|exact trivial|(apply af.mk<;>intro hb)|apply ax.mk)
  ·simp only[decide_not] at hb
   have e:oo=true:=hoc.trans hb
   subst e
   rw[Bool.true_or,← hk0,← hn0] at ho
   rw[← ho] at hR
   exact aS (n0:=H.length) hR hC' hcl (.same _ rfl) ⟨rfl,rfl⟩
  ·simp only[decide_not] at hb
   have e:oo=false:=hoc.trans hb
   subst e
   rw[Bool.false_or] at ho
   rw[← hk0,← hn0] at ho
   refine hK _ _ (i+1) (by omega) ⟨by omega,ho⟩ ?_
   exact bB (n0:=H.length) [(H.length,0),(H.length+1,0),(H.length+2,0)] hG hB hC' hcl
 obtain rfl:i=R.length:=by omega
 rw[List.drop_length,List.take_length] at ho
 rw[← ho] at hR
 clear hK
 have X:=And.intro aO (Int.lt_irrefl (R.length:Int))
 (refine run ?_;with_reducible repeat' first|exact trivial|(apply af.mk<;>intro hb)|apply ax.mk)
 exact aS (n0:=H.length) hR hC' hcl (.same _ rfl) ⟨rfl,by simp[bA,gK]⟩
theorem dQ (l:List Bd):(bj l).length≤aW l:=
 lG (f:=fun b:Bd=>b.name::ym b.e) (w:=Bd.wt) rfl (fun _ _=>rfl) fun b _=>by
  have:=dR b.e.wt b.e
  have:=b.cZ
  simp only[List.length_cons,ym];omega
theorem nJ {l:List Bd} {b:Bd} (h:b∈l):b.e.wt<aW l:=by
 induction l with
 |nil=>cases h
 |cons x r ih=>
  simp only[aW]
  have:=x.cZ
  rcases List.mem_cons.1 h with rfl|h
  ·omega
  ·have:=ih h;omega
theorem pO (G:Gl) (hG:aw G) (cons:List Cn) (binds:List Bd) (H:List az) (hw:aW binds<4294967296):
 ag Tryz.prog G 33 [.agg [.list 4 (aQ cons),.list 9 (ao binds)]] H (fun r H'=>H'=H++[.cells 0 1 ((bj binds).map .str)]∧r= .sl H.length 0 0 (bj binds).length):=by
 have hle:=dG binds
 obtain⟨L2,b1,b2,b3,b4⟩:=gB (fun b:Bd=>b.name::ym b.e) [] binds
 have e0:bj binds=L2 binds.length:=by rw[b4,List.nil_append];rfl
 have hln:=dQ binds
 rw[e0] at hln ⊢
 rw[← b4] at b3
 have bF:=fun n=>bN n cons
 refine ag.aK TB [3] aF _ Tryz.func33 rfl (by decide) Tryz.ntmps33 (by simp) rfl (by simp only[au,Nat.reduceAdd];rfl) fun C R' hR hC hcl hB=>?_;have X:=aO;have hC':=congrArg List.length hC
 (refine run ?_;with_reducible repeat' first|exact trivial|(apply af.mk<;>intro hb)|apply ax.mk)
 refine aC (fun i:Nat=>[(3,.sl (H.length+1) 0 0 (L2 i).length),(7,.list 9 (ao binds)),(8,.int .i64 binds.length),(9,.int .i64 i)])
  (fun i=>H++[.cells 0 2 [.agg [.list 4 (aQ cons),.list 9 (ao binds)]],.cells 0 1 ((L2 i).map .str)]) (fun i=>binds.length - i) (fun i=>i≤binds.length) 0 (Nat.zero_le _) ?_ ?_
 ·simp only[b1,List.length_nil,List.map_nil]
  exact bB (n0:=H.length) [(H.length,0),(H.length+1,0)] hG hB hC' hcl
 rintro K i hi hK
 rcases Nat.lt_or_ge i binds.length with hlt|hge
 ·have hpb:=nJ (List.getElem_mem hlt)
  have c1:=fun H=>qR G hG binds[i].e.wt binds[i].e H (Nat.le_refl _) (by omega)
  have e1:=b2 i hlt
  have e2:=b3 (i+1)
  have e3:=b3 i
  have e4:=dR binds[i].e.wt binds[i].e
  rw[e1,List.length_append] at e2
  simp only[List.length_cons,ym] at e2 e1
  generalize eo binds[i].e.wt binds[i].e=l at*
  generalize L2 i=l1 at*
  have X:=And.intro aO (show(l1.map SV.str).length=l1.length∧(l.map SV.str).length=l.length from⟨List.length_map ..,List.length_map ..⟩)
  (refine run ?_;with_reducible repeat' first|exact trivial|(apply af.mk<;>intro hb)|apply ax.mk)
  refine hK _ _ (i+1) (by omega) (by omega) ?_
  rw[e1,List.map_append,List.map_cons,show(l1++binds[i].name::l).length=l1.length+(1+l.length) from by simp;omega]
  exact bB (n0:=H.length) [(H.length,0),(H.length+1,0)] hG hB hC' hcl
 obtain rfl:i=binds.length:=by omega
 clear hK
 (refine run ?_;with_reducible repeat' first|exact trivial|(apply af.mk<;>intro hb)|apply ax.mk)
 exact jv [(H.length+1,0)] (.sl H.length 0 0 (L2 binds.length).length) [.cells 0 1 ((L2 binds.length).map .str)] hR hC' hcl ⟨rfl,rfl⟩
theorem Bd.Ee (b:Bd):b.sv= .agg (.str b.name::b.e.cells):=congrArg SV.agg b.df
theorem AR (G:Gl) (hG:aw G) (fid:FuncId) (fi ca:List SV) (p:Ex→Bool) (m:Nat) (hm:m<549755813888) (b:Bd) (H:List az) (ib:Nat) (hb0:b.e.wt≤m) (hib:H[ib]? =some (.cells 0 1 [.fn (.func fid) fi ca])) (hfu:(SV.fn (.func fid) fi ca).under H.length=true) (hy:s5 G fid fi ca p H m):
 ag Tryz.prog G 31 [b.sv,.ptr ib 0 0 0] H (fun r H'=>H'=H∧r= .bool (!dP p b.e)):=by
 have hlt2:ib<H.length:=(List.getElem?_eq_some_iff.1 hib).1
 have c1:=fun L=>zB G hG fid fi ca p m hm b.e (H++L) hb0 ((SV.cD (by simp)).1 _ hfu) (hy.app L)
 rw[b.Ee]
 refine ag.aK TB [] aF _ Tryz.func31 rfl (by decide) Tryz.ntmps31 (by simp) rfl (by simp only[au,Nat.reduceAdd];rfl) fun C R' hR hC hcl hB=>?_;have X:=aO;have hC':=congrArg List.length hC
 have X:=And.intro X (fun L=>(show(H++L)[ib]? =some (.cells 0 1 [.fn (.func fid) fi ca]) by rw[du hlt2];exact hib))
 (refine run ?_;with_reducible repeat' first|exact trivial|(apply af.mk<;>intro hb)|apply ax.mk)
 exact aS (n0:=H.length) hR hC' hcl (.same _ rfl) ⟨rfl,rfl⟩
theorem rn (G:Gl) (hG:aw G) (fid:FuncId) (fi ca:List SV) (p:Ex→Bool) (cons:List Cn) (binds:List Bd) (hw:aW binds<549755813888) (H:List az) (pb:Nat) (hpb:H[pb]? =some (.cells 0 2 [.agg [.list 4 (aQ cons),.list 9 (ao binds)]])) (hfu:(SV.fn (.func fid) fi ca).under H.length=true) (hy:s5 G fid fi ca p H (aW binds)):
 ag Tryz.prog G 29 [.fn (.func fid) fi ca,.ptr pb 0 0 0] H (fun r H'=>H'=H∧r= .bool (binds.all fun b=>dP p b.e)):=by
 have hlt2:pb<H.length:=(List.getElem?_eq_some_iff.1 hpb).1
 have hle:=dG binds
 have c1:=qO G hG (.fn (.func 31) [] [.ptr H.length 0 0 0]) (fun b=>!dP p b.e) binds (H++[.cells 0 1 [.fn (.func fid) fi ca]]) (by omega) (by simp[SV.under,SV.aB])
  (fun b hb=>bL.of (first:=[]) (args:=[b.sv]) (cap:=[.ptr H.length 0 0 0]) (AR G hG fid fi ca p (aW binds) hw b _ H.length (Nat.le_of_lt (nJ hb)) (by simp) ((SV.cD (by simp)).1 _ hfu) (hy.app _)))
 have e1:(!(binds.any fun b=>!dP p b.e))=binds.all fun b=>dP p b.e:=by rw[List.all_eq_not_any_not]
 rw[← e1]
 refine ag.aK TB [] aF _ Tryz.func29 rfl (by decide) Tryz.ntmps29 (by simp) rfl (by simp only[au,Nat.reduceAdd];rfl) fun C R' hR hC hcl hB=>?_;have X:=aO;have hC':=congrArg List.length hC
 have X:=And.intro X (fun L=>(show(H++L)[pb]? =some (.cells 0 2 [.agg [.list 4 (aQ cons),.list 9 (ao binds)]]) by rw[du hlt2];exact hpb))
 (refine run ?_;with_reducible repeat' first|exact trivial|(apply af.mk<;>intro hb)|apply ax.mk)
 exact aS (n0:=H.length) hR hC' hcl (.same _ rfl) ⟨rfl,rfl⟩
theorem Cm (G:Gl) (hG:aw G) (t:List (aI×Int)) (ht:∀ s,0≤cK t s∧cK t s≤1) (b:Bd) (hw:b.e.wt<549755813888) (H:List az) (vb tb:Nat) (hvb:H[vb]? =some (.cells 0 1 [.map tb])) (htb:H[tb]? =some (.map none (qk t))):
 ag Tryz.prog G 35 [b.sv,.ptr vb 0 0 0] H (fun r H'=>H'=H∧r= .bool (mN t b)):=by
 have l1:vb<H.length:=(List.getElem?_eq_some_iff.1 hvb).1
 have l2:tb<H.length:=(List.getElem?_eq_some_iff.1 htb).1
 rw[b.Ee]
 have c1:ag Tryz.prog G 37 [.map tb] (H++[.cells 0 9 [.agg (.str b.name::b.e.cells)],.map none []]) (fun r H'=>H'=H++[.cells 0 9 [.agg (.str b.name::b.e.cells)],.map none [],.map none (qk t)]∧r= .map (H.length+2)):=
  (ag.DO (G:=G) ⟨_,Tryz.func37,by decide,rfl⟩ (fun b es clock w hb=>Tryz.maps_Clone b es clock w hb) tb (H++[.cells 0 9 [.agg (.str b.name::b.e.cells)],.map none []]) none (qk t) (by rw[du l2];exact htb)).mono (by rintro r H' ⟨rfl,rfl⟩;simp)
 have hcall:=nA G hG b.e.wt b.e (Nat.le_refl _) hw (H++[.cells 0 9 [.agg (.str b.name::b.e.cells)],.map none [],.map none (qk t)]) (H.length+2) (H.length+1) (t,[]) (by simp) (by simp[gT]) (by omega) (fun s=>by have:=ht s;simp only;omega)
 refine ag.aK TB [] aF _ Tryz.func35 rfl (by decide) Tryz.ntmps35 (by simp) rfl (by simp only[au,Nat.reduceAdd];rfl) fun C R' hR hC hcl hB=>?_;have X:=aO;have hC':=congrArg List.length hC
 have X:=And.intro X (fun L=>(show(H++L)[vb]? =some (.cells 0 1 [.map tb]) by rw[du l1];exact hvb))
 (refine run ?_;with_reducible repeat' first|exact trivial|(apply af.mk<;>intro hb)|apply ax.mk)
 refine dq hcall ?_
 rintro r H' rfl
 simp only[UH,cq,List.set_cons_succ,List.set_cons_zero]
 have hul:=gS b.e.wt b.e (t,[])
 have ebn:mN t b=decide ((dN b.e.wt b.e (t,[])).2.length=0):=rfl
 generalize hst:dN b.e.wt b.e (t,[])=st at*
 have hul2:st.2.length≤9223372036854775807:=by simp only[List.length_nil] at hul;omega
 have e3:(gT st.2).length=st.2.length:=by simp[gT]
 have X:=And.intro X e3
 (refine run ?_;with_reducible repeat' first|exact trivial|(apply af.mk<;>intro hb)|apply ax.mk)
 refine aS (n0:=H.length) hR hC' hcl (.same _ rfl) ⟨rfl,?_⟩
 rw[ebn]
 exact congrArg SV.bool (decide_eq_decide.2 (by omega))
theorem AK (G:Gl) (hG:aw G) (t:List (aI×Int)) (ht:∀ s,0≤cK t s∧cK t s≤1) (b:Bd) (hw:b.e.wt<549755813888) (H:List az) (fb vb tb:Nat) (hfb:H[fb]? =some (.cells 0 1 [.fn (.func 35) [] [.ptr vb 0 0 0]])) (hvb:H[vb]? =some (.cells 0 1 [.map tb])) (htb:H[tb]? =some (.map none (qk t))):
 ag Tryz.prog G 43 [b.sv,.ptr fb 0 0 0] H (fun r H'=>H'=H∧r= .bool (!mN t b)):=by
 have l0:fb<H.length:=(List.getElem?_eq_some_iff.1 hfb).1
 have l1:vb<H.length:=(List.getElem?_eq_some_iff.1 hvb).1
 have l2:tb<H.length:=(List.getElem?_eq_some_iff.1 htb).1
 have hb:=Cm G hG t ht b hw (H++[.cells 0 9 [.agg (.str b.name::b.e.cells)]]) vb tb (by rw[du l1];exact hvb) (by rw[du l2];exact htb)
 rw[b.Ee] at*
 have v1:=bL.of (first:=[]) (args:=[.agg (.str b.name::b.e.cells)]) (cap:=[.ptr vb 0 0 0]) hb
 refine ag.aK TB [] aF _ Tryz.func43 rfl (by decide) Tryz.ntmps43 (by simp) rfl (by simp only[au,Nat.reduceAdd];rfl) fun C R' hR hC hcl hB=>?_;have X:=aO;have hC':=congrArg List.length hC
 have X:=And.intro X (fun L=>(show(H++L)[fb]? =some (.cells 0 1 [.fn (.func 35) [] [.ptr vb 0 0 0]]) by rw[du l0];exact hfb))
 (refine run ?_;with_reducible repeat' first|exact trivial|(apply af.mk<;>intro hb)|apply ax.mk)
 exact aS (n0:=H.length) hR hC' hcl (.same _ rfl) ⟨rfl,rfl⟩
theorem Dk (G:Gl) (hG:aw G) (H:List az) (lb mb vb:Nat) (cs:List Cn) (hl:jo H lb mb cs) (hvb:H[vb]? =some (.cells 0 1 [.ptr lb 0 0 0])):
 ag Tryz.prog G 38 [.ptr vb 0 0 0] H (fun r H'=>H'=H∧r= .bool (lT cs)):=by
 have l0:vb<H.length:=(List.getElem?_eq_some_iff.1 hvb).1
 have l1:=(List.getElem?_eq_some_iff.1 hl.l).1
 have l2:=(List.getElem?_eq_some_iff.1 hl.m).1
 refine ag.aK TB [] aF _ Tryz.func38 rfl (by decide) Tryz.ntmps38 (by simp) rfl (by simp only[au,Nat.reduceAdd];rfl) fun C R' hR hC hcl hB=>?_;have X:=aO;have hC':=congrArg List.length hC
 have hvx:=fun L=>(show(H++L)[vb]? =some (.cells 0 1 [.ptr lb 0 0 0]) by rw[du l0];exact hvb)
 (refine run ?_;with_reducible repeat' first|exact trivial|(apply af.mk<;>intro hb)|apply ax.mk)
 refine aC (fun i:Nat=>[(0,.ptr vb 0 0 0),(8,.agg [.str [80,114,105,109,46,70,97,108,115,101],.int .i64 0,.int .i64 0,.int .i64 2,.str [80,114,105,109,46,84,114,117,101],.int .i64 0,.int .i64 1,.int .i64 2,.str [80,114,105,109,46,40,41],.int .i64 0,.int .i64 0,.int .i64 1,.str [80,114,105,109,46,66,111,120],.int .i64 1,.int .i64 0,.int .i64 1]),(9,.int .i64 i)]) (fun _=>H++[]) (fun i=>4 - i) (fun i=>i≤4∧(mO.take i).all (fun c=>decide (b8 cs c.name=c))=true) 0 ⟨by omega,rfl⟩ ?_ ?_
 ·simp only[List.append_nil]
  exact Wk.sub (by simp[bR,look])
 rintro K i ⟨hi,ho⟩ hK
 have h5:i=0∨i=1∨i=2∨i=3∨i=4:=by omega
 rcases h5 with rfl|rfl|rfl|rfl|rfl
 ·have hz:=iX cs [80,114,105,109,46,70,97,108,115,101]
  by_cases hq:b8 cs [80,114,105,109,46,70,97,108,115,101]=(⟨[80,114,105,109,46,70,97,108,115,101],0,0,2⟩:Cn)
  ·rw[hq] at hz
   have X:=And.intro X (And.intro hl.X (And.intro hvx hz))
   (refine run ?_;with_reducible repeat' first|exact trivial|(apply af.mk<;>intro hb)|apply ax.mk)
   refine hK _ _ 1 (by omega) ⟨by omega,?_⟩ ?_
   ·simp only[mO,List.take_succ_cons,List.take_zero,List.all_cons,List.all_nil,Bool.and_true,Bool.and_eq_true,decide_eq_true_eq] at ho ⊢
    simp_all
   ·exact bB (n0:=H.length) [] hG hB hC' hcl
  ·have hf:lT cs=false:=by rw[lT,List.all_eq_false];exact⟨(⟨[80,114,105,109,46,70,97,108,115,101],0,0,2⟩:Cn),by simp[mO],by simpa using hq⟩
   rw[hf] at hR
   generalize b8 cs [80,114,105,109,46,70,97,108,115,101]=q at*
   obtain⟨n1,n2,n3,n4⟩:=q
   have X:=And.intro X (And.intro hl.X (And.intro hvx hz))
   (refine run ?_;with_reducible repeat' first|exact trivial|(apply af.mk<;>intro hb)|apply ax.mk)
   ·exact aS (n0:=H.length) hR hC' hcl (.same _ rfl) ⟨rfl,rfl⟩
   ·exfalso;apply hq;simp_all
 ·have hz:=iX cs [80,114,105,109,46,84,114,117,101]
  by_cases hq:b8 cs [80,114,105,109,46,84,114,117,101]=(⟨[80,114,105,109,46,84,114,117,101],0,1,2⟩:Cn)
  ·rw[hq] at hz
   have X:=And.intro X (And.intro hl.X (And.intro hvx hz))
   (refine run ?_;with_reducible repeat' first|exact trivial|(apply af.mk<;>intro hb)|apply ax.mk)
   refine hK _ _ 2 (by omega) ⟨by omega,?_⟩ ?_
   ·simp only[mO,List.take_succ_cons,List.take_zero,List.all_cons,List.all_nil,Bool.and_true,Bool.and_eq_true,decide_eq_true_eq] at ho ⊢
    simp_all
   ·exact bB (n0:=H.length) [] hG hB hC' hcl
  ·have hf:lT cs=false:=by rw[lT,List.all_eq_false];exact⟨(⟨[80,114,105,109,46,84,114,117,101],0,1,2⟩:Cn),by simp[mO],by simpa using hq⟩
   rw[hf] at hR
   generalize b8 cs [80,114,105,109,46,84,114,117,101]=q at*
   obtain⟨n1,n2,n3,n4⟩:=q
   have X:=And.intro X (And.intro hl.X (And.intro hvx hz))
   (refine run ?_;with_reducible repeat' first|exact trivial|(apply af.mk<;>intro hb)|apply ax.mk)
   ·exact aS (n0:=H.length) hR hC' hcl (.same _ rfl) ⟨rfl,rfl⟩
   ·exfalso;apply hq;simp_all
 ·have hz:=iX cs [80,114,105,109,46,40,41]
  by_cases hq:b8 cs [80,114,105,109,46,40,41]=(⟨[80,114,105,109,46,40,41],0,0,1⟩:Cn)
  ·rw[hq] at hz
   have X:=And.intro X (And.intro hl.X (And.intro hvx hz))
   (refine run ?_;with_reducible repeat' first|exact trivial|(apply af.mk<;>intro hb)|apply ax.mk)
   refine hK _ _ 3 (by omega) ⟨by omega,?_⟩ ?_
   ·simp only[mO,List.take_succ_cons,List.take_zero,List.all_cons,List.all_nil,Bool.and_true,Bool.and_eq_true,decide_eq_true_eq] at ho ⊢
    simp_all
   ·exact bB (n0:=H.length) [] hG hB hC' hcl
  ·have hf:lT cs=false:=by rw[lT,List.all_eq_false];exact⟨(⟨[80,114,105,109,46,40,41],0,0,1⟩:Cn),by simp[mO],by simpa using hq⟩
   rw[hf] at hR
   generalize b8 cs [80,114,105,109,46,40,41]=q at*
   obtain⟨n1,n2,n3,n4⟩:=q
   have X:=And.intro X (And.intro hl.X (And.intro hvx hz))
   (refine run ?_;with_reducible repeat' first|exact trivial|(apply af.mk<;>intro hb)|apply ax.mk)
   ·exact aS (n0:=H.length) hR hC' hcl (.same _ rfl) ⟨rfl,rfl⟩
   ·exfalso;apply hq;simp_all
 ·have hz:=iX cs [80,114,105,109,46,66,111,120]
  by_cases hq:b8 cs [80,114,105,109,46,66,111,120]=(⟨[80,114,105,109,46,66,111,120],1,0,1⟩:Cn)
  ·rw[hq] at hz
   have X:=And.intro X (And.intro hl.X (And.intro hvx hz))
   (refine run ?_;with_reducible repeat' first|exact trivial|(apply af.mk<;>intro hb)|apply ax.mk)
   refine hK _ _ 4 (by omega) ⟨by omega,?_⟩ ?_
   ·simp only[mO,List.take_succ_cons,List.take_zero,List.all_cons,List.all_nil,Bool.and_true,Bool.and_eq_true,decide_eq_true_eq] at ho ⊢
    simp_all
   ·exact bB (n0:=H.length) [] hG hB hC' hcl
  ·have hf:lT cs=false:=by rw[lT,List.all_eq_false];exact⟨(⟨[80,114,105,109,46,66,111,120],1,0,1⟩:Cn),by simp[mO],by simpa using hq⟩
   rw[hf] at hR
   generalize b8 cs [80,114,105,109,46,66,111,120]=q at*
   obtain⟨n1,n2,n3,n4⟩:=q
   have X:=And.intro X (And.intro hl.X (And.intro hvx hz))
   (refine run ?_;with_reducible repeat' first|exact trivial|(apply af.mk<;>intro hb)|apply ax.mk)
   ·exact aS (n0:=H.length) hR hC' hcl (.same _ rfl) ⟨rfl,rfl⟩
   ·exfalso;apply hq;simp_all
 ·have ho:lT cs=true:=ho
  rw[ho] at hR
  (refine run ?_;with_reducible repeat' first|exact trivial|(apply af.mk<;>intro hb)|apply ax.mk)
  exact aS (n0:=H.length) hR hC' hcl (.same _ rfl) ⟨rfl,rfl⟩
theorem wG (l:List aI):∀ m,(dE l m).length≤m
 |0=>Nat.le_refl _
 |m+1=>by
  rw[dE]
  have:=wG l m
  split
  ·omega
  ·rw[List.length_append,List.length_singleton];omega
theorem Cr {H:List az} {id g sz:Nat} {vs0:List SV} (h:H[id]? =some (.cells g sz vs0)):
 ∃ Q:List SV→List az,Q vs0=H∧(∀ vs,Q vs=H.set id (.cells g sz vs))∧(∀ vs,(Q vs).length=H.length)∧
  ((∀ vs,(Q vs)[id]? =some (.cells g sz vs))∧(∀ vs L,(Q vs++L)[id]? =some (.cells g sz vs))∧(∀ vs ws,(Q vs).set id (.cells g sz ws)=Q ws)∧(∀ vs ws L,(Q vs++L).set id (.cells g sz ws)=Q ws++L))∧(closed H→∀ vs,SV.aB H.length vs=true→closed (Q vs)):=by
 have hl:=(List.getElem?_eq_some_iff.1 h).1
 refine⟨fun vs=>H.set id (.cells g sz vs),dV h,fun vs=>rfl,fun vs=>by simp,⟨fun vs=>List.getElem?_set_self hl,fun vs L=>?_,fun vs ws=>List.set_set ..,fun vs ws L=>?_⟩,fun hc vs hv=>hc.set hv⟩
 ·rw[List.getElem?_append_left (by simpa using hl)];exact List.getElem?_set_self hl
 ·rw[fV (by simpa using hl),List.set_set]
theorem yw (G:Gl) (hG:aw G) (l:List aI) (H:List az) (id g:Nat) (hid:H[id]? =some (.cells g 1 (l.map .str))) (hl:l.length<1099511627776):
 ag Tryz.prog G 41 [.sl id g 0 l.length] H (fun r H'=>∃ vs,(H'=H.set id (.cells g 1 vs)∧r= .sl id g 0 (o8 l).length)∧vs.length=l.length∧SV.aB H.length vs=true):=by
 obtain⟨Q,q0,qd,hlen,qx,qc⟩:=Cr hid
 have li:=(List.getElem?_eq_some_iff.1 hid).1
 have hlm:(l.map SV.str).length=l.length:=List.length_map ..
 simp only[← qd]
 have hu:∀ xs:List aI,SV.aB H.length (xs.map SV.str)=true:=fun xs=>SV.bX fun _ _=>rfl
 rw[← q0]
 refine ag.aK TB [] aF _ Tryz.func41 rfl (by decide) Tryz.ntmps41 (by simp) rfl (by simp only[au,Nat.reduceAdd];rfl) fun C R' hR hC hcl hB=>?_;have X:=aO;have hC':=congrArg List.length hC
 have hC':=hC'.trans (hlen _)
 rw[hlen] at hR
 have hcls:∀ vs,SV.aB H.length vs=true→closed (Q vs):=fun vs=>qc (q0 ▸ hcl) vs
 generalize H.length=n0 at*
 have X:=And.intro X (And.intro qx hlm)
 (refine run ?_;with_reducible repeat' first|exact trivial|(apply af.mk<;>intro hb)|apply ax.mk)
 ·rename_i hb
  have e:(o8 l).length=l.length:=by
   match l,hb with
   |[],_=>rfl
   |[x],_=>rfl
   |x::y::r,h=>simp only[List.length_cons] at h;omega
  exact Fin.out hR ⟨_,⟨rfl,by rw[e];rfl⟩,hlm,hu l⟩
 have hn2:2≤l.length:=by omega
 refine aC (fun m:Nat=>[(0,.sl id g 0 l.length),(2,.nil),(3,.int .i64 ((m+1:Nat):Int))]) (fun _=>Q (l.map .str)++[]) (fun m=>l.length - m) (fun m=>m+1≤l.length∧dE l (m+1)=l.take (m+1)) 0 ⟨by omega,?_⟩ ?_ ?_
 ·match l,hn2 with
  |x::r,_=>simp[dE]
 ·rw[List.append_nil]
  exact Wk.sub (by simp[bR,look])
 rintro K m ⟨hm,hd⟩ hK
 rcases Nat.lt_or_ge (m+1) l.length with hlt|hge
 ·have hm0:m<l.length:=by omega
  have e1:(l.map SV.str)[m+1]? =some (.str l[m+1]):=by simp[hlt]
  have e2:(l.map SV.str)[m]? =some (.str l[m]):=by simp[hm0]
  have hmi:((m+1:Nat):Int) - 1=(m:Int):=by omega
  have g1:l.getD (m+1) []=l[m+1]:=by rw[List.getD_eq_getElem?_getD,List.getElem?_eq_getElem hlt];rfl
  have g0:l.getD m []=l[m]:=by rw[List.getD_eq_getElem?_getD,List.getElem?_eq_getElem hm0];rfl
  have hds:dE l (m+2)=if l[m+1]=l[m] then dE l (m+1) else dE l (m+1)++[l[m+1]]:=by
   rw[dE,Nat.add_sub_cancel,g1,g0]
   by_cases h:l[m+1]=l[m]
   ·rw[if_pos ⟨by omega,h⟩,if_pos h]
   ·rw[if_neg (fun q=>h q.2),if_neg h]
  have ht:=List.take_succ_eq_append_getElem hlt
  generalize l[m+1]=x1 at*
  generalize l[m]=x0 at*
  have X:=And.intro X (And.intro e1 (And.intro e2 hmi))
  (refine run ?_;with_reducible repeat' first|exact trivial|(apply af.mk<;>intro hb)|apply ax.mk)
  ·rw[if_pos hb] at hds
   have hJ0:(dE l (m+2)).length=m+1:=by rw[hds,hd,List.length_take];omega
   refine aC (fun a:Nat×List aI=>[(0,.sl id g 0 l.length),(3,.int .i64 ((dE l (m+1+(a.1+1))).length:Int)),(4,.sl id g (m+1) (l.length - (m+1))),(5,.int .i64 ((a.1+1:Nat):Int))]) (fun a=>Q (a.2.map .str)++[]) (fun a=>l.length - a.1)
    (fun a=>(m+1+(a.1+1)≤l.length∧a.2.length=l.length)∧(∀ i,m+1+a.1≤i→a.2[i]? =l[i]?)∧(dE l (m+1+(a.1+1))).length≤m+1+a.1) (0,l) ⟨⟨by omega,rfl⟩,fun i _=>rfl,by simp only[Nat.zero_add];rw[show dE l (m+1+1)=dE l (m+2) from rfl,hJ0];omega⟩ ?_ ?_
   ·simp only[Nat.zero_add]
    rw[show dE l (m+1+1)=dE l (m+2) from rfl,hJ0]
    exact bB (n0:=n0) [] hG hB hC' (hcls _ (hu l))
   clear hK X
   rintro K2 ⟨a,xs⟩ ⟨⟨ha1,ha2⟩,ha4,ha5⟩ hK2
   simp only at ha1 ha2 ha4 ha5
   dsimp only
   have ha2':(xs.map SV.str).length=l.length:=by rw[List.length_map,ha2]
   have hJn:=hds
   rcases Nat.lt_or_ge (m+1+(a+1)) l.length with hl2|hl2
   ·have f1:=ha4 (m+1+(a+1)) (by omega)
    have f2:=ha4 (m+1+a) (by omega)
    have hl3:m+1+a<l.length:=by omega
    rw[List.getElem?_eq_getElem hl2] at f1
    rw[List.getElem?_eq_getElem hl3] at f2
    have g1:l.getD (m+1+(a+1)) []=l[m+1+(a+1)]:=by rw[List.getD_eq_getElem?_getD,List.getElem?_eq_getElem hl2];rfl
    have g0:l.getD (m+1+a) []=l[m+1+a]:=by rw[List.getD_eq_getElem?_getD,List.getElem?_eq_getElem hl3];rfl
    have hds:dE l (m+1+(a+1+1))=if l[m+1+(a+1)]=l[m+1+a] then dE l (m+1+(a+1)) else dE l (m+1+(a+1))++[l[m+1+(a+1)]]:=by
     rw[show m+1+(a+1+1)=(m+1+(a+1))+1 from rfl,dE,show m+1+(a+1) - 1=m+1+a by omega,g1,g0]
     by_cases h:l[m+1+(a+1)]=l[m+1+a]
     ·rw[if_pos ⟨by omega,h⟩,if_pos h]
     ·rw[if_neg (fun q=>h q.2),if_neg h]
    clear hJn
    generalize l[m+1+(a+1)]=x1 at*
    generalize l[m+1+a]=x0 at*
    generalize hJ:(dE l (m+1+(a+1))).length=J at*
    have q1:((l.length - (m+1):Nat):Int)=(l.length:Int) - (m+1):=by omega
    have q2:((a+1:Nat):Int) - 1=(a:Int):=by omega
    have hJl:J<xs.length:=by omega
    obtain⟨y,hy⟩:∃ y,xs[J]? =some y:=⟨_,List.getElem?_eq_getElem hJl⟩
    have f1':(xs.map SV.str)[m+(1+(a+1))]? =some (.str x1):=by rw[← Nat.add_assoc,List.getElem?_map,f1];rfl
    have f2':(xs.map SV.str)[m+(1+a)]? =some (.str x0):=by rw[← Nat.add_assoc,List.getElem?_map,f2];rfl
    have hy':(xs.map SV.str)[J]? =some (.str y):=by rw[List.getElem?_map,hy];rfl
    have hset:(xs.map SV.str).set J (.str x1)=(xs.set J x1).map SV.str:=by rw[List.map_set]
    have X:=And.intro aO (And.intro qx (And.intro f1' (And.intro f2' (And.intro q2 (And.intro ha2' (And.intro hy' hset))))))
    (refine run ?_;with_reducible repeat' first|exact trivial|(apply af.mk<;>intro hb)|apply ax.mk)
    ·rw[if_neg hb] at hds
     have hJ2:(dE l (m+1+(a+1+1))).length=J+1:=by rw[hds,List.length_append,hJ];rfl
     refine hK2 _ _ (a+1,xs.set J x1) (by simp only;omega) ⟨⟨by simp only;omega,by simpa using ha2⟩,fun i hi=>?_,by simp only[hJ2];omega⟩ ?_
     ·simp only at hi
      rw[List.getElem?_set_ne (by omega)]
      exact ha4 i (by omega)
     ·simp only[hJ2]
      exact bB (n0:=n0) [] hG hB hC' (hcls _ (hu _))
    ·rw[if_pos (by simpa using hb)] at hds
     have hJ2:(dE l (m+1+(a+1+1))).length=J:=by rw[hds,hJ]
     refine hK2 _ _ (a+1,xs) (by simp only;omega) ⟨⟨by simp only;omega,ha2⟩,fun i hi=>ha4 i (by simp only at hi;omega),by simp only[hJ2];omega⟩ ?_
     simp only[hJ2]
     exact bB (n0:=n0) [] hG hB hC' (hcls _ (hu _))
   ·have hml:m+1+(a+1)=l.length:=by omega
    have he:o8 l=dE l (m+1+(a+1)):=by rw[o8,hml]
    have hq:((l.length - (m+1):Nat):Int)=((a+1:Nat):Int):=by omega
    have hJ3:(dE l (m+1+(a+1))).length≤l.length:=by omega
    rw[he] at hR
    generalize (dE l (m+1+(a+1))).length=J at*
    clear hK2
    have X:=And.intro aO (And.intro qx (And.intro ha2' (And.intro hq (Int.lt_irrefl ((a+1:Nat):Int)))))
    (refine run ?_;with_reducible repeat' first|exact trivial|(apply af.mk<;>intro hb)|apply ax.mk)
    have hul:SV.aB n0 (List.take J (xs.map SV.str)++(List.replicate (l.length - J) (SV.str [])++List.drop (J+(l.length - J)) (xs.map SV.str)))=true:=by
     rw[SV.fG,SV.fG,SV.kn rfl,← List.map_take,← List.map_drop,hu,hu];rfl
    exact aS (n0:=n0) hR hC' (hcls _ hul) (.same _ (by simpa [SV.under,bA] using li)) ⟨_,⟨rfl,rfl⟩,by simp only[List.length_append,List.length_take,List.length_replicate,List.length_drop,List.length_map];omega,hul⟩
  ·rw[if_neg hb,hd,← ht] at hds
   exact hK _ _ (m+1) (by omega) ⟨by omega,hds⟩ (bB (n0:=n0) [] hG hB hC' (hcls _ (hu l)))
 ·have hml:m+1=l.length:=by omega
  clear hK
  (refine run ?_;with_reducible repeat' first|exact trivial|(apply af.mk<;>intro hb)|apply ax.mk)
  have e:o8 l=l:=by rw[o8,← hml,hd,hml,List.take_length]
  exact aS (n0:=n0) hR hC' (hcls _ (hu l)) (.same _ (by simpa [SV.under,bA] using li)) ⟨_,⟨rfl,by rw[e];rfl⟩,hlm,hu l⟩
def HM (G:Gl) (m:Nat):Prop:=∀ (e:Ex) (H:List az),e.wt≤m→ag Tryz.prog G 28 [e.sv] H (fun r H'=>H'=H∧r= .int .i64 (fY m e))
theorem mD (n d:Nat):(if (n:Int)<(d:Int) then (d:Int) else (n:Int))=((max n d:Nat):Int):=by
 split<;>omega
theorem AP (G:Gl) (hG:aw G) (m:Nat) (hm:m<4294967296) (hrec:HM G m) (p:Ex) (H:List az) (n nb:Nat) (hp:p.wt≤m) (h1:H[nb]? =some (vJ n)) (hn:n<4294967296):
 ag Tryz.prog G 78 [p.sv,.ptr nb 0 0 0] H (fun r H'=>H'=H.set nb (vJ (max n (fY m p):Nat))∧r= .bool true):=by
 have hlt:nb<H.length:=(List.getElem?_eq_some_iff.1 h1).1
 have hd:=kF m p
 have c1:=fun H=>hrec p H hp
 generalize fY m p=d at*
 refine ag.aK TB [] aF _ Tryz.func78 rfl (by decide) Tryz.ntmps78 (by simp) rfl (by simp only[au,Nat.reduceAdd];rfl) fun C R' hR hC hcl hB=>?_;have X:=aO;have hC':=congrArg List.length hC
 have X:=And.intro h1 (show IntKind.i64.min≤(d:Int)∧(d:Int)≤IntKind.i64.max from⟨by show(-9223372036854775808:Int)≤_;omega,by show _≤(9223372036854775807:Int);omega⟩)
 unfold vJ at X
 (refine run ?_;with_reducible repeat' first|exact trivial|(apply af.mk<;>intro hb)|apply ax.mk)
 rw[mD]
 exact Fin.dx (n0:=H.length) hR (by simp) hC' (hcl.set rfl) (.same _ rfl) ⟨rfl,rfl⟩
theorem Bc (l:List Nat) (i:Nat) (h:i<l.length):gh (l.take (i+1))=max (gh (l.take i)) l[i]:=by
 rw[List.take_succ_eq_append_getElem h,rU]
theorem wH (G:Gl) (hG:aw G):∀ m,m<4294967296→HM G m
 |0,_,e,_,h=>absurd e.bz (by omega)
 |m+1,hm2,e,H,hm=>by
  have hrec:=wH G hG m (by omega)
  have hmx:∀ i,gh ((e.parts.map (fY m)).take i)≤m:=fun i=>qA fun x hx=>by
   obtain⟨p,_,rfl⟩:=List.mem_map.1 (List.mem_of_mem_take hx)
   exact kF m p
  refine ag.aK TB [] aF _ Tryz.func28 rfl (by decide) Tryz.ntmps28 (by simp) rfl (by simp only[au,Nat.reduceAdd];rfl) fun C R' hR hC hcl hB=>?_;have X:=aO;have hC':=congrArg List.length hC
  have heach:=zK G hG e (by omega) (.fn (.func 78) [] [.ptr (H.length+1) 0 0 0]) (fun i=>H++[.cells 0 8 [.agg e.cells],vJ (gh ((e.parts.map (fY m)).take i):Nat)]) (H.length+2) (fun i=>by simp) (by simp[SV.under,SV.aB])
   (fun h i=>by
    have:=h.set (id:=H.length+1) (b:=vJ (gh ((e.parts.map (fY m)).take i):Nat)) rfl
    simpa using this) (fun i p X hp=>by
    have hpw:=Ex.cU (List.mem_of_getElem? hp)
    have hlp:=(List.getElem?_eq_some_iff.1 hp)
    have hli:i<(e.parts.map (fY m)).length:=by simpa using hlp.1
    have hnx:=Bc (e.parts.map (fY m)) i hli
    have hget:(e.parts.map (fY m))[i]=fY m p:=by simp[hlp.2]
    rw[hget] at hnx
    have hi:=hmx i
    refine bL.of (first:=[]) (args:=[p.sv]) (cap:=[.ptr (H.length+1) 0 0 0]) ((AP G hG m (by omega) hrec p _ (gh ((e.parts.map (fY m)).take i)) (H.length+1) (by omega) (by simp) (by omega)).mono ?_)
    rintro r H' ⟨rfl,rfl⟩
    refine⟨?_,rfl⟩
    rw[hnx]
    simp)
  have h0:gh ((e.parts.map (fY m)).take 0)=0:=rfl
  have hall:gh ((e.parts.map (fY m)).take e.parts.length)=gh (e.parts.map (fY m)):=by
   rw[List.take_of_length_le (by simp)]
  simp only[vJ,h0,hall] at heach
  have hmm:=hmx e.parts.length
  rw[hall] at hmm
  unfold fY at hR
  generalize gh (e.parts.map (fY m))=d at*
  (refine run ?_;with_reducible repeat' first|exact trivial|(apply af.mk<;>intro hb)|apply ax.mk)
  refine bh heach ?_
  rintro r H' ⟨rfl,rfl⟩
  (refine run ?_;with_reducible repeat' first|exact trivial|(apply af.mk<;>intro hb)|apply ax.mk)
  exact Fin.dx (n0:=H.length) hR (by simp) hC' hcl (.same _ rfl) ⟨rfl,by simp only[bA];rfl⟩
theorem Cu (G:Gl) (hG:aw G) (l:List aI) (H:List az) (id g:Nat) (hid:H[id]? =some (.cells g 1 (l.map .str))) (hl:l.length<1099511627776):
 ag Tryz.prog G 42 [.sl id g 0 l.length] H (fun r H'=>H'=H++[.cells 0 1 (l.map .str)]∧r= .sl H.length 0 0 l.length):=by
 have li:=(List.getElem?_eq_some_iff.1 hid).1
 have hlm:(l.map SV.str).length=l.length:=List.length_map ..
 have ht:List.take l.length (l.map SV.str)=l.map SV.str:=List.take_of_length_le (by omega)
 refine ag.aK TB [2,5] aF _ Tryz.func42 rfl (by decide) Tryz.ntmps42 (by simp) rfl (by simp only[au,Nat.reduceAdd];rfl) fun C R' hR hC hcl hB=>?_;have X:=aO;have hC':=congrArg List.length hC
 have X:=And.intro X (And.intro hid (And.intro hlm ht))
 (refine bP ?_;with_reducible repeat' first|exact trivial|(apply af.mk<;>intro hb)|apply ax.mk)
 ·obtain rfl:l=[]:=List.length_eq_zero_iff.1 hb
  exact jv [(H.length+1,0)] (.sl H.length 0 0 0) [.cells 0 1 []] hR hC' hcl ⟨rfl,rfl⟩
 ·exact jv [(H.length+1,0)] (.sl H.length 0 0 l.length) [.cells 0 1 (l.map .str)] hR hC' hcl ⟨rfl,rfl⟩
theorem Az:∀ (l:List Bd) (t:List (aI×Int)),(∀ s,0≤cK t s∧cK t s≤1)→∀ s,0≤cK (l.foldl (fun t b=>ny t b.name 1) t) s∧cK (l.foldl (fun t b=>ny t b.name 1) t) s≤1
 |[],t,h=>h
 |b::r,t,h=>by
  rw[List.foldl_cons]
  refine Az r _ fun s=>?_
  rw[nL]
  split
  ·omega
  ·exact h s
theorem Ei (l:List Bd) (s:aI):0≤cK (fP l) s∧cK (fP l) s≤1:=Az l [] (fun s=>by simp[cK]) s
theorem BH (l:List Bd) (b:Bd):dw (qk (fP l)) (.str b.name) (.int .i64 1)=qk (fP (l++[b])):=by
 rw[pG,fP,fP,List.foldl_append];rfl
theorem sL (l:List Bd) (b:Bd):eg (l++[b])=eg l+b.e.size:=by simp[eg]
theorem tC (l:List Bd) (b:Bd):im (l++[b])=max (im l) (dep b.e):=by rw[im,List.map_append,List.map_cons,List.map_nil,rU];rfl
theorem sK:∀ l:List Bd,eg l≤aW l
 |[]=>Nat.le_refl _
 |b::r=>by
  have h1:=sK r
  have h2:=iN b.e.wt b.e (Nat.le_refl _)
  have h3:=b.cZ
  simp only[eg,List.map_cons,List.sum_cons,aW] at*
  omega
theorem kB (l:List Bd) (i:Nat):aW (l.take i)≤aW l:=by
 induction l generalizing i with
 |nil=>simp
 |cons b r ih=>
  cases i with
  |zero=>simp[aW]
  |succ i=>simp only[List.take_succ_cons,aW];have:=ih i;omega
theorem CA (e:Ex):dep e≤e.wt:=kF _ _
theorem E3 (l:List Bd):im l≤aW l:=qA fun x hx=>by
 obtain⟨b,hb,rfl⟩:=List.mem_map.1 hx
 have:=CA b.e
 have:=nJ hb
 omega
section
section
variable {P:Program} {G:Gl} {T:aE} {own:List Nat} {nt B:Nat} {ρ:Option Nat} {C:Cx} {rs:List ResultVar} {R:SV→List az→Prop} {env env2:Env} {H X KB:List az} {k:List It}
theorem KW {p:Prop} (h:p:=by repeat' (first|exact de.nil|(refine de.cons _ _ _ _ ?_ ?_)|(apply bV.same;exact kX)|(apply bV.ks 3 rfl;(· exact dL);(· omega);(· omega);(· omega);(· omega))|(apply bV.ks 4 rfl;(· exact dL);(· omega);(· omega);(· omega);(· omega))|(apply bV.ks 5 rfl;(· exact dL);(· omega);(· omega);(· omega);(· omega))|(apply bV.ks 6 rfl;(· exact dL);(· omega);(· omega);(· omega);(· omega))|(apply bV.ks 7 rfl;(· exact dL);(· omega);(· omega);(· omega);(· omega))|fail)):p:=h
theorem MV (ks:ez) {n0:Nat} (hG:aw G) (hB:eJ G C.H.length) (hC:C.H.length=n0) (hcl:closed H) (hn:H.length=n0:=by first|rfl|(simp;done)|exact hlen _)
 (hk:en (H++X) n0 ks ks KB:=by
  repeat' (first|exact en.nil|(apply en.c;(· exact dL);(· omega);(· first|omega|(simp<;>omega));(· first|(apply de.same;exact kX)|(refine de.cons _ _ _ _ ?_ de.nil;apply bV.agg;exact KW)|exact wS))|exact A2))
 (hd:(ks.map (·.1)).Nodup:=by first|rfl|decide|simp)
 (he:gR (H++X) n0 ks env2 env:=by
  repeat' (first|exact True.intro|(refine And.intro ⟨_,rfl,?_⟩ ?_)|(apply bV.fn;(· exact wS);(· exact wS))|(apply bV.kp 5 rfl;(· exact dL);(· omega);(· omega);(· omega))|(apply bV.kp 6 rfl;(· exact dL);(· omega);(· omega);(· omega))|(apply bV.kp 7 rfl;(· exact dL);(· omega);(· omega);(· omega))|exact A2)):Wk G nt C ⟨env,H++X⟩ ⟨env2,H++KB⟩:=Wk.xe ks hG hB hn hC hcl hk hd he
end
end
theorem Ab (G:Gl) (hG:aw G) (p:Pg) (H:List az) (hw:aW p.binds<4294967295) (hcn:p.cons.length<1099511627776):
 ag Tryz.prog G 10 [p.sv] H (fun r H'=>H'=H∧r= .int .i64 (cV p)):=by
 obtain⟨cons,binds⟩:=p
 simp only at hw hcn
 rw[show(Pg.mk cons binds).sv= .agg [.list 4 (aQ cons),.list 9 (ao binds)] from rfl]
 have hle:=dG binds
 have hszl:=fun i=>Nat.le_trans (sK (binds.take i)) (kB binds i)
 have hdpl:=fun i=>Nat.le_trans (E3 (binds.take i)) (kB binds i)
 have bF:=fun n=>bN n cons
 generalize hS:cV ⟨cons,binds⟩=S
 refine ag.aK TB [] aF _ Tryz.func10 rfl (by decide) Tryz.ntmps10 (by simp) rfl (by simp only[au,Nat.reduceAdd];rfl) fun C R' hR hC hcl hB=>?_;have X:=aO;have hC':=congrArg List.length hC
 (refine run ?_;with_reducible repeat' first|exact trivial|(apply af.mk<;>intro hb)|apply ax.mk)
 refine aC (fun i:Nat=>[(1,.ptr H.length 0 0 0),(2,.int .i64 0),(3,.int .i64 (eg (binds.take i):Int)),(4,.int .i64 (im (binds.take i):Int)),(16,.list 9 (ao binds)),(17,.int .i64 binds.length),(18,.int .i64 i)])
  (fun i=>H++[.cells 0 2 [.agg [.list 4 (aQ cons),.list 9 (ao binds)]]]) (fun i=>binds.length - i) (fun i=>i≤binds.length) 0 (Nat.zero_le _) ?_ ?_
 ·simp only[List.take_zero,show eg []=0 from rfl,show im []=0 from rfl]
  exact bB (n0:=H.length) [(H.length,0)] hG hB hC' hcl
 rintro K i hi hK
 rcases Nat.lt_or_ge i binds.length with hlt|hge
 ·have hpb:=nJ (List.getElem_mem hlt)
  have hsw:=iN binds[i].e.wt binds[i].e (Nat.le_refl _)
  have c1:=fun H=>FQ G hG binds[i].e H (by omega) (by omega)
  have c2:∀ H,ag Tryz.prog G 28 [binds[i].e.sv] H (fun r H'=>H'=H∧r= .int .i64 (dep binds[i].e)):=fun H=>wH G hG binds[i].e.wt (by omega) binds[i].e H (Nat.le_refl _)
  have hdw:=CA binds[i].e
  have ht:=List.take_succ_eq_append_getElem hlt
  have e1:eg (binds.take (i+1))=eg (binds.take i)+binds[i].e.size:=by rw[ht,sL]
  have e2:im (binds.take (i+1))=max (im (binds.take i)) (dep binds[i].e):=by rw[ht,tC]
  have h1:=hszl i
  have h2:=hszl (i+1)
  have h3:=hdpl i
  have hmx:=mD (im (binds.take i)) (dep binds[i].e)
  generalize binds[i].e.size=sz at*
  generalize eg (binds.take i)=s0 at*
  generalize im (binds.take i)=d0 at*
  generalize dep binds[i].e=d1 at*
  have X:=And.intro aO (And.intro hmx (show IntKind.i64.min≤(d1:Int)∧(d1:Int)≤IntKind.i64.max from⟨by show(-9223372036854775808:Int)≤_;omega,by show _≤(9223372036854775807:Int);omega⟩))
  (refine run ?_;with_reducible repeat' first|exact trivial|(apply af.mk<;>intro hb)|apply ax.mk)
  refine hK _ _ (i+1) (by omega) (by omega) ?_
  rw[e1,e2]
  exact bB (n0:=H.length) [(H.length,0)] hG hB hC' hcl
 obtain rfl:i=binds.length:=by omega
 clear hK
 simp only[List.take_length]
 have X:=And.intro aO (Int.lt_irrefl (binds.length:Int))
 have hfc:(100000:Int)<(eg binds:Int)↔100000<eg binds:=by omega
 have hfd:(1000:Int)<(im binds:Int)↔1000<im binds:=by omega
 (refine run ?_;with_reducible repeat' first|exact trivial|(apply af.mk<;>intro hb)|apply ax.mk)
 ·have e:cV ⟨cons,binds⟩=3:=if_pos (hfc.1 hb)
  rw[← hS,e] at hR
  exact aS (n0:=H.length) hR hC' hcl (.same _ rfl) ⟨rfl,rfl⟩
 ·have q1:¬ (100000:Int)<(eg binds:Int):=by assumption
  have e:cV ⟨cons,binds⟩=4:=(if_neg (fun h=>q1 (hfc.2 h))).trans (if_pos (hfd.1 hb))
  rw[← hS,e] at hR
  exact aS (n0:=H.length) hR hC' hcl (.same _ rfl) ⟨rfl,rfl⟩
 have q1:¬ 100000<eg binds:=fun h=>absurd (hfc.2 h) (by assumption)
 have q2:¬ 1000<im binds:=fun h=>hb (hfd.2 h)
 clear hfc hfd hb
 refine bh (pO G hG cons binds _ (by omega)) ?_
 rintro r H' ⟨rfl,rfl⟩
 simp only[List.append_assoc,List.cons_append,List.nil_append,List.length_append,List.length_cons,List.length_nil,List.length_set,X,Nat.reduceAdd]
 have hbl:=dQ binds
 (refine run ?_;with_reducible repeat' first|exact trivial|(apply af.mk<;>intro hb)|apply ax.mk)
 refine bh (ur G (H.length+4) 0 (bj binds) _ (by simp) (by omega)) ?_
 rintro r H' ⟨rfl,rfl⟩
 simp only[cq,List.set_cons_succ,List.set_cons_zero]
 have hnl:(eC (bj binds)).length=(bj binds).length:=eP _
 rw[← hnl]
 generalize hNM:eC (bj binds)=nm at*
 (refine run ?_;with_reducible repeat' first|exact trivial|(apply af.mk<;>intro hb)|apply ax.mk)
 refine aC (fun i:Nat=>[(1,.ptr H.length 0 0 0),(7,.fn (.func 29) [] [.ptr H.length 0 0 0]),(8,.ptr (H.length+3) 0 0 0),(9,.sl (H.length+4) 0 0 nm.length),(10,.ptr (H.length+6) 0 0 0),(49,.list 9 (ao binds)),(50,.int .i64 binds.length),(51,.int .i64 i)])
  (fun i=>H++[.cells 0 2 [.agg [.list 4 (aQ cons),.list 9 (ao binds)]],.map none [],.cells 0 1 [.agg [.map (H.length+1)]],.cells 0 1 [.ptr (H.length+2) 0 0 0],.cells 0 1 (nm.map .str),.map none (qk (fP (binds.take i))),.cells 0 1 [.map (H.length+5)]]) (fun i=>binds.length - i) (fun i=>i≤binds.length) 0 (Nat.zero_le _) ?_ ?_
 ·exact MV (n0:=H.length) [(H.length,0),(H.length+1,0),(H.length+2,0),(H.length+3,0),(H.length+4,0),(H.length+5,0),(H.length+6,0)] hG hB hC' hcl
 rintro K i hi hK
 rcases Nat.lt_or_ge i binds.length with hlt|hge
 ·have ht:=List.take_succ_eq_append_getElem hlt
  have hsn:=BH (binds.take i) binds[i]
  rw[← ht] at hsn
  have X:=And.intro aO hsn
  (refine run ?_;with_reducible repeat' first|exact trivial|(apply af.mk<;>intro hb)|apply ax.mk)
  refine hK _ _ (i+1) (by omega) (by omega) ?_
  exact MV (n0:=H.length) [(H.length,0),(H.length+1,0),(H.length+2,0),(H.length+3,0),(H.length+4,0),(H.length+5,0),(H.length+6,0)] hG hB hC' hcl
 obtain rfl:i=binds.length:=by omega
 clear hK
 simp only[List.take_length]
 have X:=And.intro aO (Int.lt_irrefl (binds.length:Int))
 (refine run ?_;with_reducible repeat' first|exact trivial|(apply af.mk<;>intro hb)|apply ax.mk)
 have hwb:∀ x:Ex,x.wt≤aW binds→x.wt<549755813888:=fun x hx=>by omega
 refine fB (bL.of (first:=[]) (args:=[.fn (.func 39) [] []]) (cap:=[.ptr H.length 0 0 0]) (rn G hG 39 [] [] eY cons binds (by omega) _ H.length (by simp) rfl
  (fun x hx X=>bL.of (first:=[]) (args:=[x.sv]) (cap:=[]) (BD G hG x (hwb x hx) _)))) ?_
 rintro r H' ⟨rfl,rfl⟩
 cases q3:(binds.all fun b=>dP eY b.e)
 ·(refine run ?_;with_reducible repeat' first|exact trivial|(apply af.mk<;>intro hb)|apply ax.mk)
  have e:cV ⟨cons,binds⟩=120:=by unfold cV;rw[if_neg q1,if_neg q2,if_pos (by rw[q3];rfl)]
  rw[← hS,e] at hR
  exact aS (n0:=H.length) hR hC' hcl (.same _ rfl) ⟨rfl,rfl⟩
 (refine run ?_;with_reducible repeat' first|exact trivial|(apply af.mk<;>intro hb)|apply ax.mk)
 refine bh (Fy G hG _ (H.length+2) (H.length+1) cons (by simp) (by simp) hcn) ?_
 rintro r H' ⟨l,⟨rfl,rfl⟩,hl⟩
 simp only[cq,List.set_cons_succ,List.set_cons_zero]
 cases q4:gF [] cons
 ·(refine run ?_;with_reducible repeat' first|exact trivial|(apply af.mk<;>intro hb)|apply ax.mk)
  have e:cV ⟨cons,binds⟩=121:=by unfold cV;rw[if_neg q1,if_neg q2,if_neg (by rw[q3];exact Bool.false_ne_true),if_pos (by rw[q4];rfl)]
  rw[← hS,e] at hR
  exact aS (n0:=H.length) hR hC' hcl (.same _ rfl) ⟨rfl,rfl⟩
 obtain rfl:=hl q4
 (refine run ?_;with_reducible repeat' first|exact trivial|(apply af.mk<;>intro hb)|apply ax.mk)
 ·have q5:dm binds=true:=by
   unfold dm
   rw[hNM,← hnl,List.getD_eq_getElem?_getD,List.getElem?_eq_getElem (by omega)]
   simp only[Option.getD_some,Gb,hb,decide_true,Bool.and_true,Bool.or_eq_true,decide_eq_true_eq]
   exact .inl (by omega)
  have e:cV ⟨l,binds⟩=122:=by unfold cV;rw[if_neg q1,if_neg q2,if_neg (by rw[q3];exact Bool.false_ne_true),if_neg (by rw[q4];exact Bool.false_ne_true),if_pos q5]
  rw[← hS,e] at hR
  exact aS (n0:=H.length) hR hC' hcl (.same _ rfl) ⟨rfl,rfl⟩
 all_goals
  have q50:(decide (0<(bj binds).length)&&Gb ((eC (bj binds)).getD 0 []) [])=false:=by
   first
   |(rw[show decide (0<(bj binds).length)=false from decide_eq_false (by omega)];rfl)
   |(rw[hNM,List.getD_eq_getElem?_getD,List.getElem?_eq_getElem (by omega)];simp only[Option.getD_some,Gb,hb,decide_false,Bool.and_false])
  refine bh (Cu G hG nm _ (H.length+4) 0 (by simp) (by omega)) ?_
  rintro r H' ⟨rfl,rfl⟩
  simp only[List.append_assoc,List.cons_append,List.nil_append,List.length_append,List.length_cons,List.length_nil,List.length_set,X,Nat.reduceAdd]
  (refine run ?_;with_reducible repeat' first|exact trivial|(apply af.mk<;>intro hb)|apply ax.mk)
  refine bh (yw G hG nm _ (H.length+8) 0 (by simp) (by omega)) ?_
  rintro r H' ⟨vs,⟨rfl,rfl⟩,hvl,hvu⟩
  simp only[cq,List.set_cons_succ,List.set_cons_zero]
  have hbn:dm binds=decide ((o8 nm).length≠nm.length):=by
   unfold dm
   rw[q50,hNM,Bool.false_or,hnl]
  by_cases hdn:(o8 nm).length=nm.length
  rotate_left
  ·have hdi:¬ ((o8 nm).length:Int)=(nm.length:Int):=by omega
   (refine run ?_;with_reducible repeat' first|exact trivial|(apply af.mk<;>intro hb)|apply ax.mk)
   have q5:dm binds=true:=by rw[hbn];exact decide_eq_true hdn
   have e:cV ⟨l,binds⟩=122:=by unfold cV;rw[if_neg q1,if_neg q2,if_neg (by rw[q3];exact Bool.false_ne_true),if_neg (by rw[q4];exact Bool.false_ne_true),if_pos q5]
   rw[← hS,e] at hR
   exact aS (n0:=H.length) hR hC' hcl (.same _ rfl) ⟨rfl,rfl⟩
  have q5:dm binds=false:=by rw[hbn];exact decide_eq_false (fun h=>h hdn)
  rw[hdn]
  have hany:(binds.any fun b=>!mN (fP binds) b)=!(binds.all (mN (fP binds))):=by rw[List.all_eq_not_any_not,Bool.not_not]
  (refine run ?_;with_reducible repeat' first|exact trivial|(apply af.mk<;>intro hb)|apply ax.mk)
  refine bh (qO G hG (.fn (.func 43) [] [.ptr (H.length+7) 0 0 0]) (fun b=>!mN (fP binds) b) binds _ (by omega) (by simp[SV.under,SV.aB]) (fun b hb=>bL.of (first:=[]) (args:=[b.sv]) (cap:=[.ptr (H.length+7) 0 0 0])
   (AK G hG (fP binds) (Ei binds) b (hwb _ (Nat.le_of_lt (nJ hb))) _ (H.length+7) (H.length+6) (H.length+5) (by simp) (by simp) (by simp)))) ?_
  rintro r H' ⟨rfl,rfl⟩
  rw[hany]
  cases q6:binds.all (mN (fP binds))
  ·(refine run ?_;with_reducible repeat' first|exact trivial|(apply af.mk<;>intro hb)|apply ax.mk)
   have e:cV ⟨l,binds⟩=123:=by unfold cV;rw[if_neg q1,if_neg q2,if_neg (by rw[q3];exact Bool.false_ne_true),if_neg (by rw[q4];exact Bool.false_ne_true),if_neg (by rw[q5];exact Bool.false_ne_true),if_pos (by rw[q6];rfl)]
   rw[← hS,e] at hR
   exact aS (n0:=H.length) hR hC' hcl (.same _ rfl) ⟨rfl,rfl⟩
  (refine run ?_;with_reducible repeat' first|exact trivial|(apply af.mk<;>intro hb)|apply ax.mk)
  refine fB (bL.of (first:=[]) (args:=[]) (cap:=[.ptr (H.length+3) 0 0 0]) (Dk G hG _ (H.length+2) (H.length+1) (H.length+3) l ⟨by simp,by simp⟩ (by simp))) ?_
  rintro r H' ⟨rfl,rfl⟩
  cases q7:lT l
  ·(refine run ?_;with_reducible repeat' first|exact trivial|(apply af.mk<;>intro hb)|apply ax.mk)
   have e:cV ⟨l,binds⟩=124:=by unfold cV;rw[if_neg q1,if_neg q2,if_neg (by rw[q3];exact Bool.false_ne_true),if_neg (by rw[q4];exact Bool.false_ne_true),if_neg (by rw[q5];exact Bool.false_ne_true),if_neg (by rw[q6];exact Bool.false_ne_true),if_pos (by rw[q7];rfl)]
   rw[← hS,e] at hR
   exact aS (n0:=H.length) hR hC' hcl (.same _ rfl) ⟨rfl,rfl⟩
  (refine run ?_;with_reducible repeat' first|exact trivial|(apply af.mk<;>intro hb)|apply ax.mk)
  refine fB (bL.of (first:=[]) (args:=[.fn (.func 44) [.ptr (H.length+2) 0 0 0] []]) (cap:=[.ptr H.length 0 0 0]) (rn G hG 44 [.ptr (H.length+2) 0 0 0] [] (ll l) l binds (by omega) _ H.length (by simp) (by simp[SV.under,SV.aB])
   (fun x hx X=>bL.of (first:=[.ptr (H.length+2) 0 0 0]) (args:=[x.sv]) (cap:=[]) (E8 G hG _ (H.length+2) (H.length+1) l ⟨by simp,by simp⟩ x (hwb x hx))))) ?_
  rintro r H' ⟨rfl,rfl⟩
  cases q8:(binds.all fun b=>dP (ll l) b.e)
  ·(refine run ?_;with_reducible repeat' first|exact trivial|(apply af.mk<;>intro hb)|apply ax.mk)
   have e:cV ⟨l,binds⟩=124:=by unfold cV;rw[if_neg q1,if_neg q2,if_neg (by rw[q3];exact Bool.false_ne_true),if_neg (by rw[q4];exact Bool.false_ne_true),if_neg (by rw[q5];exact Bool.false_ne_true),if_neg (by rw[q6];exact Bool.false_ne_true),if_pos (by rw[q7,q8];rfl)]
   rw[← hS,e] at hR
   exact aS (n0:=H.length) hR hC' hcl (.same _ rfl) ⟨rfl,rfl⟩
  (refine run ?_;with_reducible repeat' first|exact trivial|(apply af.mk<;>intro hb)|apply ax.mk)
  refine fB (bL.of (first:=[]) (args:=[.fn (.func 45) [.ptr (H.length+2) 0 0 0] []]) (cap:=[.ptr H.length 0 0 0]) (rn G hG 45 [.ptr (H.length+2) 0 0 0] [] (lx l) l binds (by omega) _ H.length (by simp) (by simp[SV.under,SV.aB])
   (fun x hx X=>bL.of (first:=[.ptr (H.length+2) 0 0 0]) (args:=[x.sv]) (cap:=[]) (AN G hG _ (H.length+2) (H.length+1) l ⟨by simp,by simp⟩ x (hwb x hx))))) ?_
  rintro r H' ⟨rfl,rfl⟩
  cases q9:(binds.all fun b=>dP (lx l) b.e)
  ·(refine run ?_;with_reducible repeat' first|exact trivial|(apply af.mk<;>intro hb)|apply ax.mk)
   have e:cV ⟨l,binds⟩=125:=by unfold cV;rw[if_neg q1,if_neg q2,if_neg (by rw[q3];exact Bool.false_ne_true),if_neg (by rw[q4];exact Bool.false_ne_true),if_neg (by rw[q5];exact Bool.false_ne_true),if_neg (by rw[q6];exact Bool.false_ne_true),if_neg (by rw[q7,q8];exact Bool.false_ne_true),if_pos (by rw[q9];rfl)]
   rw[← hS,e] at hR
   exact aS (n0:=H.length) hR hC' hcl (.same _ rfl) ⟨rfl,rfl⟩
  by_cases qm:cK (fP binds) lV=0
  ·have qm':cK (fP binds) [77,97,105,110,46,109,97,105,110]=0:=qm
   have X:=And.intro aO qm'
   (refine run ?_;with_reducible repeat' first|exact trivial|(apply af.mk<;>intro hb)|apply ax.mk)
   have e:cV ⟨l,binds⟩=126:=by unfold cV;rw[if_neg q1,if_neg q2,if_neg (by rw[q3];exact Bool.false_ne_true),if_neg (by rw[q4];exact Bool.false_ne_true),if_neg (by rw[q5];exact Bool.false_ne_true),if_neg (by rw[q6];exact Bool.false_ne_true),if_neg (by rw[q7,q8];exact Bool.false_ne_true),if_neg (by rw[q9];exact Bool.false_ne_true),if_pos qm]
   rw[← hS,e] at hR
   exact aS (n0:=H.length) hR hC' hcl (.same _ rfl) ⟨rfl,rfl⟩
  ·have qm':¬ cK (fP binds) [77,97,105,110,46,109,97,105,110]=0:=qm
   have X:=aO
   (refine run ?_;with_reducible repeat' first|exact trivial|(apply af.mk<;>intro hb)|apply ax.mk)
   have e:cV ⟨l,binds⟩=0:=by unfold cV;rw[if_neg q1,if_neg q2,if_neg (by rw[q3];exact Bool.false_ne_true),if_neg (by rw[q4];exact Bool.false_ne_true),if_neg (by rw[q5];exact Bool.false_ne_true),if_neg (by rw[q6];exact Bool.false_ne_true),if_neg (by rw[q7,q8];exact Bool.false_ne_true),if_neg (by rw[q9];exact Bool.false_ne_true),if_neg qm]
   rw[← hS,e] at hR
   exact aS (n0:=H.length) hR hC' hcl (.same _ rfl) ⟨rfl,rfl⟩
theorem tz (l:List aI):∀ m,(dE l m).length=m→∀ i,i+1<m→l.getD (i+1) []≠l.getD i []
 |0,_,i,h=>by omega
 |m+1,hm,i,h=>by
  have h1:=wG l m
  rw[dE] at hm
  split at hm
  ·omega
  ·rename_i hc
   rw[List.length_append,List.length_singleton] at hm
   rcases Nat.lt_or_ge (i+1) m with h2|h2
   ·exact tz l m (by omega) i h2
   ·obtain rfl:m=i+1:=by omega
    intro he
    exact hc ⟨by omega,by simpa using he⟩
theorem sM (l:List aI) {i j:Nat} (hj:j<(eC l).length) (hij:i<j):(eC l)[i]≤(eC l)[j]:=by
 have tr:∀ a b c:List UInt8,(decide (a≤b))=true→(decide (b≤c))=true→(decide (a≤c))=true:=fun a b c h1 h2=>by simp only[decide_eq_true_eq] at*;exact List.le_trans h1 h2
 have to:∀ a b:List UInt8,(decide (a≤b)||decide (b≤a))=true:=fun a b=>by simp only[Bool.or_eq_true,decide_eq_true_eq];exact List.le_total a b
 have h1:(eC l).Pairwise (fun x y:List UInt8=>(decide (x≤y))=true):=List.pairwise_mergeSort tr to _
 exact of_decide_eq_true (List.pairwise_iff_getElem.1 h1 i j (by omega) hj hij)
theorem oR (l:List aI) (h:(o8 (eC l)).length=l.length):l.Nodup:=by
 have hl:(eC l).length=l.length:=eP _
 rw[o8,← hl] at h
 refine(gm _).nodup_iff.1 (List.pairwise_iff_getElem.2 fun i j hi hj hij he=>?_)
 have hadj:=tz (eC l) _ h i (by omega)
 apply hadj
 rw[List.getD_eq_getElem?_getD,List.getD_eq_getElem?_getD,List.getElem?_eq_getElem (show i+1<(eC l).length by omega),List.getElem?_eq_getElem hi]
 simp only[Option.getD_some]
 have h1:=sM l (i:=i) (j:=i+1) (by omega) (by omega)
 rcases Nat.lt_or_ge (i+1) j with h2|h2
 ·have h3:=sM l hj h2
  rw[← he] at h3
  exact List.le_antisymm h3 h1
 ·obtain rfl:j=i+1:=by omega
  exact he.symm
structure HP (p:Pg):Prop where
 BR:∀ b∈p.binds,dP eY b.e=true
 cons:gF [] p.cons=true
 names:(bj p.binds).Nodup
 scope:∀ b∈p.binds,mN (fP p.binds) b=true
 M7:lT p.cons=true
 full:∀ b∈p.binds,dP (ll p.cons) b.e=true
 alts:∀ b∈p.binds,dP (lx p.cons) b.e=true
theorem p6 {p:Pg} (h:cV p=0):HP p:=by
 unfold cV at h
 split at h
 ·cases h
 split at h
 ·cases h
 split at h
 ·cases h
 rename_i h3
 split at h
 ·cases h
 rename_i h4
 split at h
 ·cases h
 rename_i h5
 split at h
 ·cases h
 rename_i h6
 split at h
 ·cases h
 rename_i h7
 split at h
 ·cases h
 rename_i h8
 simp only[Bool.not_eq_true',Bool.not_eq_false,Bool.and_eq_true,List.all_eq_true] at h3 h4 h6 h7 h8
 refine⟨h3,by simpa using h4,?_,h6,h7.1,h7.2,h8⟩
 unfold dm at h5
 simp only[Bool.or_eq_true,not_or,decide_eq_true_eq,Decidable.not_not] at h5
 exact oR _ h5.2
section
open Go Go.ChangeShapes Go.WideShapes Go.RowKit
def Cn.wt (c:Cn):Nat:=c.name.length+4
section
variable {H:Type} {enc:TypeId×Value→H} {W:World} {sp:Nat→Bool}
theorem FH (n:Nat):Rd enc Tryz.prog W sp n 67 Cn.cells Cn.wt:=by
 intro cs x hx
 obtain⟨xs,m,hm,rfl,hl,hlen,hf⟩:=DataW.trod_struct Tryz.underlying67 hx
 obtain⟨z0,z1,z2,z3,rfl⟩:∃ z0 z1 z2 z3,xs=[z0,z1,z2,z3]:=by
  match xs,(show xs.length=4 from hlen) with
  |[a,b,c,d],_=>exact⟨a,b,c,d,rfl⟩
 have hsz:Tryz.prog.cellsOf 67=4:=by kernel_rfl
 obtain⟨y0,s,e0,g0,w0⟩:=cQ hf 0 0 1 (by kernel_rfl) (by kernel_rfl) (lZ m) (by simp)
 obtain⟨y1,a,e1,g1,w1⟩:=cQ hf 1 1 1 (by kernel_rfl) (by kernel_rfl) (gG m) (by simp)
 obtain⟨y2,b,e2,g2,w2⟩:=cQ hf 2 2 1 (by kernel_rfl) (by kernel_rfl) (gG m) (by simp)
 obtain⟨y3,c,e3,g3,w3⟩:=cQ hf 3 3 1 (by kernel_rfl) (by kernel_rfl) (gG m) (by simp)
 rw[hsz] at hl
 refine⟨⟨s,a,b,c⟩,?_,by rw[hsz,hl],?_⟩
 ·have:(Cn.mk s a b c).cells=[.str s]++([.int .i64 a]++([.int .i64 b]++([.int .i64 c]++[]))):=rfl
  rw[this,← List.drop_zero (l:=cs)]
  refine .cut g0 (.cut g1 (.cut g2 (.cut g3 ?_)))
  rw[List.drop_eq_nil_of_le (by omega)]
  exact .nil
 ·cases e0;cases e1;cases e2;cases e3
  simp only[Rows.uptoBulk,Rows.uptoBulkAll,List.map_cons,List.map_nil,Cn.wt]
  omega
theorem DZ (n:Nat):Rd enc Tryz.prog W sp n 22 (fun l:List Cn=>[.list 4 (aQ l)]) (fun l=>1+(l.map Cn.wt).sum):=
 kf (enc:=enc) (P:=Tryz.prog) (W:=W) (sp:=sp) (t:=22) (e:=67) true (f:=Cn.cells) (wt:=Cn.wt) (n:=4) (N:=n) (by kernel_rfl) (by kernel_rfl) (by kernel_rfl) (by omega) (.inl rfl) (fun m _=>FH m)
def Pg.wt (p:Pg):Nat:=2+(p.cons.map Cn.wt).sum+aW p.binds
theorem FJ (n:Nat):Rd enc Tryz.prog W sp n 25 Pg.cells Pg.wt:=by
 intro cs x hx
 obtain⟨xs,m,hm,rfl,hl,hlen,hf⟩:=DataW.trod_struct Tryz.underlying25 hx
 obtain⟨z0,z1,rfl⟩:=Aa (show xs.length=2 from hlen)
 have hsz:Tryz.prog.cellsOf 25=2:=by kernel_rfl
 obtain⟨y0,c,e0,g0,w0⟩:=cQ hf 0 0 1 (by kernel_rfl) (by kernel_rfl) (DZ m) (by simp)
 obtain⟨y1,b,e1,g1,w1⟩:=cQ hf 1 1 1 (by kernel_rfl) (by kernel_rfl) (DY m) (by simp)
 rw[hsz] at hl
 refine⟨⟨c,b⟩,?_,by rw[hsz,hl],?_⟩
 ·have:(Pg.mk c b).cells=[.list 4 (aQ c)]++([.list 9 (ao b)]++[]):=rfl
  rw[this,← List.drop_zero (l:=cs)]
  refine .cut g0 (.cut g1 ?_)
  rw[List.drop_eq_nil_of_le (by omega)]
  exact .nil
 ·cases e0;cases e1
  simp only[Rows.uptoBulk,Rows.uptoBulkAll,List.map_cons,List.map_nil,Pg.wt]
  omega
end
theorem Av {α:Type} {f:α→Nat} (h:∀ x,1≤f x):∀ l:List α,l.length≤(l.map f).sum
 |[]=>Nat.zero_le _
 |x::l=>by have:=h x;have:=Av h l;simp only[List.length_cons,List.map_cons,List.sum_cons];omega
theorem Au {l:List aI} {s:aI} (h:s∈l):s.length≤cW l:=by
 induction l with
 |nil=>cases h
 |cons x r ih=>
  simp only[cW]
  rcases List.mem_cons.1 h with rfl|h
  ·omega
  ·have:=ih h;omega
theorem qs:∀ (m:Nat) (e:Ex) {s:aI},s∈eo m e→s.length≤e.wt
 |0,e,s,h=>by cases h
 |m+1,.mk kd nm nn op names ad binds alts,s,h=>by
  have h1:eo (m+1) (.mk kd nm nn op names ad binds alts)=(if kd=3 then names else [])++ad.flatMap (eo m)++binds.flatMap (fun b=>b.name::eo m b.e)++(if kd=6 then [nm] else [])++alts.flatMap (fun a=>a.names++eo m a.body):=rfl
  rw[h1] at h
  have hp:=Ex.dn kd nm nn op names ad binds alts
  simp only[List.mem_append,List.mem_flatMap] at h
  rcases h with (((h|⟨x,hx,h⟩)|⟨b,hb,h⟩)|h)|⟨a,ha,h⟩
  ·split at h
   ·have:=Au h;simp only[Ex.wt];omega
   ·cases h
  ·have:=qs m x h
   have:=Ex.cU (e:= .mk kd nm nn op names ad binds alts) (p:=x) (by rw[hp];exact List.mem_append_left _ hx)
   omega
  ·rcases List.mem_cons.1 h with rfl|h
   ·have h2:b.name.length+b.e.wt≤b.wt:=by obtain⟨q,e⟩:=b;simp only[Bd.wt,Bd.name,Bd.e];omega
    have h3:b.wt≤aW binds:=by
     clear h1 h2 hp
     induction binds with
     |nil=>cases hb
     |cons y r ih=>
      simp only[aW]
      rcases List.mem_cons.1 hb with rfl|hb
      ·omega
      ·have:=ih hb;omega
    simp only[Ex.wt];omega
   ·have:=qs m b.e h
    have:=Ex.cU (e:= .mk kd nm nn op names ad binds alts) (p:=b.e) (by rw[hp];exact List.mem_append_right _ (List.mem_append_left _ (List.mem_map.2 ⟨b,hb,rfl⟩)))
    omega
  ·split at h
   ·rw[List.mem_singleton.1 h];simp only[Ex.wt];omega
   ·cases h
  ·rcases h with h|h
   ·have h2:=Au h
    have h3:=cN ha
    obtain⟨ak,an,am,al,ab⟩:=a
    simp only[Al.wt,Al.names,Ex.wt] at*
    omega
   ·have:=qs m a.body h
    have:=Ex.cU (e:= .mk kd nm nn op names ad binds alts) (p:=a.body) (by rw[hp];exact List.mem_append_right _ (List.mem_append_right _ (List.mem_map.2 ⟨a,ha,rfl⟩)))
    omega
theorem GD {l:List Bd} {b:Bd} (hb:b∈l):b.wt≤aW l:=by
 induction l with
 |nil=>cases hb
 |cons y r ih=>
  simp only[aW]
  rcases List.mem_cons.1 hb with rfl|hb
  ·omega
  ·have:=ih hb;omega
theorem vW {l:List Bd} {s:aI} (h:s∈bj l):s.length≤aW l:=by
 obtain⟨b,hb,h⟩:=List.mem_flatMap.1 h
 have h3:=GD hb
 have h2:b.name.length≤b.wt∧b.e.wt≤b.wt:=by obtain⟨q,e⟩:=b;simp only[Bd.wt,Bd.name,Bd.e];omega
 rcases List.mem_cons.1 h with rfl|h
 ·omega
 ·have:=qs _ _ h;omega
end
def bw:Ex:= .mk 0 [] 0 0 [] [] [] []
theorem rY:∀ (l:List UInt8) (acc:Nat) (b:UInt8),Lib.decFrom acc (l++[b])=(Lib.decFrom acc l).bind fun n=>(Lib.digitVal b).map fun d=>n*10+d
 |[],acc,b=>by
  simp only[List.nil_append,Lib.decFrom,Option.bind_some]
  cases Lib.digitVal b<;>rfl
 |a::t,acc,b=>by
  simp only[List.cons_append,Lib.decFrom]
  cases Lib.digitVal a with
  |none=>rfl
  |some d=>exact rY t _ b
theorem DJ:∀ (l:List UInt8) (acc n:Nat),Lib.decFrom acc l=some n→acc≤n
 |[],acc,n,h=>by simp only[Lib.decFrom,Option.some.injEq] at h;omega
 |a::t,acc,n,h=>by
  simp only[Lib.decFrom] at h
  cases hd:Lib.digitVal a with
  |none=>rw[hd] at h;cases h
  |some d=>rw[hd] at h;have:=DJ t _ n h;omega
theorem FA {b:UInt8} {r:List UInt8} {n:Nat} (h:Lib.decFrom 0 (b::r)=some n) (h0:b≠48):0<n:=by
 simp only[Lib.decFrom] at h
 cases hd:Lib.digitVal b with
 |none=>rw[hd] at h;cases h
 |some d=>
  rw[hd] at h
  have h1:=DJ r _ n h
  obtain⟨h2,h3,h4⟩:=Lib.digitVal_eq hd
  have:b.toNat≠48:=fun e=>h0 (UInt8.toNat_inj.1 e)
  omega
theorem yJ {b:UInt8} {d:Nat} (h:Lib.digitVal b=some d):d<10∧UInt8.ofNat (48+d)=b:=by
 obtain⟨h2,h3,h4⟩:=Lib.digitVal_eq h
 refine⟨by omega,UInt8.toNat_inj.1 ?_⟩
 rw[UInt8.toNat_ofNat']
 omega
theorem rl {d:Nat} (h:d<10):Lib.digitVal (UInt8.ofNat (48+d))=some d:=by
 have h1:(UInt8.ofNat (48+d)).toNat=48+d:=by rw[UInt8.toNat_ofNat'];omega
 unfold Lib.digitVal
 rw[h1,if_pos (by omega)]
 congr 1
 omega
theorem zJ:∀ (k:Nat) (l:List UInt8) (n:Nat),l.length=k→l≠[]→l.head?≠some 48→Lib.decFrom 0 l=some n→Lib.decDigits n=l
 |0,l,n,hk,h,_,_=>absurd (List.length_eq_zero_iff.1 hk) h
 |k+1,l,n,hk,h,h0,hd=>by
  obtain⟨r,b,rfl⟩:∃ r b,l=r++[b]:=⟨l.dropLast,l.getLast h,(List.dropLast_concat_getLast h).symm⟩
  rw[rY] at hd
  cases hr:Lib.decFrom 0 r with
  |none=>rw[hr] at hd;cases hd
  |some m=>
   rw[hr] at hd
   cases hb:Lib.digitVal b with
   |none=>rw[hb] at hd;cases hd
   |some d=>
    rw[hb] at hd
    obtain rfl:m*10+d=n:=Option.some.inj hd
    obtain⟨hd1,hd2⟩:=yJ hb
    by_cases hre:r=[]
    ·subst hre
     simp only[Lib.decFrom,Option.some.injEq] at hr
     subst hr
     rw[Lib.decDigits,dif_pos (by omega)]
     simp only[Nat.zero_mul,Nat.zero_add,hd2,List.nil_append]
    ·have hh:r.head?=(r++[b]).head?:=by cases r with
      |nil=>exact absurd rfl hre
      |cons x t=>rfl
     have hrl:r.length=k:=by simp at hk;omega
     have ih:=zJ k r m hrl hre (by rw[hh];exact h0) hr
     have hm:0<m:=by
      cases r with
      |nil=>exact absurd rfl hre
      |cons x t=>exact FA hr (fun e=>h0 (by rw[e];rfl))
     rw[Lib.decDigits,dif_neg (by omega),show(m*10+d) / 10=m by omega,show(m*10+d) % 10=d by omega,ih,hd2]
theorem DI (u:Nat):Lib.decFrom 0 (Lib.decDigits u)=some u:=by
 induction u using Nat.strongRecOn with
 |_ u ih=>
  by_cases h:u<10
  ·rw[Lib.decDigits,dif_pos h]
   simp only[Lib.decFrom,rl h]
   congr 1;omega
  ·rw[Lib.decDigits,dif_neg h,rY,ih (u / 10) (by omega),Option.bind_some,rl (by omega)]
   simp only[Option.map_some]
   congr 1;omega
theorem zI (u:Nat):Lib.decDigits u≠[]:=by
 rw[Lib.decDigits]
 split<;>simp
theorem AQ (u:Nat) (h:0<u):(Lib.decDigits u).head?≠some 48:=by
 induction u using Nat.strongRecOn with
 |_ u ih=>
  by_cases h2:u<10
  ·rw[Lib.decDigits,dif_pos h2]
   intro e
   have e:UInt8.ofNat (48+u)=48:=Option.some.inj e
   have:=rl h2
   rw[e] at this
   have h3:Lib.digitVal 48=some 0:=by decide
   rw[h3] at this
   have:=Option.some.inj this
   omega
  ·rw[Lib.decDigits,dif_neg h2]
   have ih:=ih (u / 10) (by omega) (by omega)
   cases hl:Lib.decDigits (u / 10) with
   |nil=>exact absurd hl (zI _)
   |cons x t=>rw[hl] at ih;exact ih
def eh (s:aI):Nat:=if s.length<3∨11<s.length∨s.take 2≠[116,35]∨s[2]? =some 48 then 0 else (Lib.decFrom 0 (s.drop 2)).getD 0
theorem vk (s:aI):eh s<1000000000:=by
 unfold eh
 split
 ·decide
 ·rename_i h
  cases hd:Lib.decFrom 0 (s.drop 2) with
  |none=>show(0:Nat)<_;decide
  |some n=>
   have h1:=Lib.decFrom_lt _ _ _ hd
   have h2:(s.drop 2).length≤9:=by rw[List.length_drop];omega
   have h3:10 ^ (s.drop 2).length≤10 ^ 9:=Nat.pow_le_pow_right (by decide) h2
   show n<_
   omega
def vl (s:aI):Bool:=decide (s.take 2=[116,35])&&(ic (s.drop 2)).2&&decide (0<(ic (s.drop 2)).1)&&decide ((s.drop 2).length≤9)&&decide (Lib.itoa (ic (s.drop 2)).1=s.drop 2)
theorem FB (s:aI):(if vl s then (ic (s.drop 2)).1 else 0)=(eh s:Int):=by
 by_cases hp:s.take 2=[116,35]
 rotate_left
 ·rw[show vl s=false by simp only[vl,decide_eq_false hp,Bool.false_and],show eh s=0 by unfold eh;rw[if_pos (.inr (.inr (.inl hp)))]]
  rfl
 have hs:s=116::35::s.drop 2:=by
  have:=List.take_append_drop 2 s
  rw[hp] at this
  exact this.symm
 generalize hds:s.drop 2=ds at*
 subst hs
 by_cases hl:ds.length≤9
 rotate_left
 ·rw[show vl (116::35::ds)=false by simp only[vl,List.drop_succ_cons,List.drop_zero,decide_eq_false hl,Bool.and_false,Bool.false_and],show eh (116::35::ds)=0 by unfold eh;rw[if_pos (.inr (.inl (by simp;omega)))]]
  rfl
 have hat:ic ds=match Lib.atoi ds with|some v=>(v,true)|none=>(0,false):=by
  unfold ic
  rw[Lib.atoiAll_short ds (by omega)]
  cases Lib.atoi ds<;>rfl
 by_cases hn:eh (116::35::ds)=0
 ·rw[hn]
  split
  ·rename_i hc
   exfalso
   simp only[vl,List.drop_succ_cons,List.drop_zero,Bool.and_eq_true,decide_eq_true_eq] at hc
   obtain⟨⟨⟨⟨-,h1⟩,h2⟩,-⟩,h3⟩:=hc
   generalize (ic ds).1=k at*
   obtain⟨u,rfl⟩:=Int.eq_ofNat_of_zero_le (show 0≤k by omega)
   rw[Lib.itoa_nonneg] at h3
   have hd:=DI u
   have hh:=AQ u (by omega)
   have hne:=zI u
   rw[h3] at hd hh hne
   unfold eh at hn
   rw[if_neg,show List.drop 2 (116::35::ds)=ds from rfl,hd] at hn
   ·have:u=0:=hn
    omega
   ·rintro (h|h|h|h)
    ·cases ds with
     |nil=>exact hne rfl
     |cons x t=>simp at h;omega
    ·simp at h;omega
    ·exact h rfl
    ·cases ds with
     |nil=>exact hne rfl
     |cons x t=>exact hh h
  ·rfl
 ·have hn2:=hn
  unfold eh at hn2
  split at hn2
  ·exact absurd rfl hn2
  rename_i hc
  have hne:ds≠[]:=fun e=>hc (.inl (by rw[e];decide))
  have hh:ds.head?≠some 48:=fun e=>hc (.inr (.inr (.inr (by cases ds with|nil=>cases e|cons x t=>exact e))))
  cases hd:Lib.decFrom 0 ds with
  |none=>rw[show List.drop 2 (116::35::ds)=ds from rfl,hd] at hn2;exact absurd rfl hn2
  |some u=>
   have hnu:eh (116::35::ds)=u:=by unfold eh;rw[if_neg hc,show List.drop 2 (116::35::ds)=ds from rfl,hd];rfl
   rw[hnu]
   have hdg:=zJ _ ds u rfl hne hh hd
   have hu:0<u:=by omega
   have hai:Lib.atoi ds=some (u:Int):=by
    cases ds with
    |nil=>exact absurd rfl hne
    |cons x t=>
     have hx:∃ d,Lib.digitVal x=some d:=Lib.digit_of_decFrom _ _ _ hd 0 x rfl
     obtain⟨d,hx⟩:=hx
     obtain⟨h1,h2,-⟩:=Lib.digitVal_eq hx
     have h45:(x==45)=false:=by
      rw[beq_eq_false_iff_ne];intro e;rw[e] at h1;revert h1;decide
     have h43:(x==43)=false:=by
      rw[beq_eq_false_iff_ne];intro e;rw[e] at h1;revert h1;decide
     simp only[Lib.atoi,h45,h43,Bool.false_eq_true,if_false,Lib.decNat,List.isEmpty_cons,hd,Option.map_some]
   rw[hai] at hat
   have hat:ic ds=((u:Int),true):=hat
   rw[if_pos]
   ·rw[hat]
   ·simp only[vl,List.drop_succ_cons,List.drop_zero,hat,Lib.itoa_nonneg,hdg,Bool.and_eq_true,decide_eq_true_eq]
    refine⟨⟨⟨⟨rfl,trivial⟩,by omega⟩,hl⟩,trivial⟩
def ql (l:List Bd):Nat:=((bj l).foldl (fun n s=>max n (eh s)) 0)+1
theorem qz:∀ (l:List aI) (n:Nat),n<1000000000→l.foldl (fun n s=>max n (eh s)) n<1000000000
 |[],n,h=>h
 |s::r,n,h=>qz r _ (by have:=vk s;show max n (eh s)<_;omega)
theorem Af (l:List Bd):ql l<1000000001:=by
 have:=qz (bj l) 0 (by decide)
 unfold ql
 omega
end Go.Proofs.YtedejleokilohaaGreatDoor
