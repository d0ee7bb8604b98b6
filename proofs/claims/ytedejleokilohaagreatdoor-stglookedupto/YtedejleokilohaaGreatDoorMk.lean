/- What a Prim takes are numbers, or names that have been looked into (StgLooked, in the form for data of bounded bulk). Names and spaces are cut short by program. -/
import Derived.Test.YtedejleokilohaaGreatDoorMj
set_option linter.unusedSimpArgs false
set_option linter.unusedVariables false
set_option maxRecDepth 10000
set_option maxHeartbeats 4000000
namespace Go.Proofs.YtedejleokilohaaGreatDoor
open Go
section
def hasO (all:List Oper) (p:Env×List Blk):List (Env×List Blk)→Bool
 |[]=>false
 |q::r=>bif sameOn p.1 q.1 (dstsOf all)&&sameH p.2 q.2 then true else hasO all p r
def mergeL (all:List Oper):List (Env×List Blk)→List (Env×List Blk)→List (Env×List Blk)
 |[],l2=>l2
 |p::r,l2=>bif hasO all p l2 then mergeL all r l2 else mergeL all r (p::l2)
def drAllL (all:List Oper) (f:Nat→Option (List (Env×List Blk))):List Nat→Option (List (Env×List Blk))
 |[]=>some []
 |j::js=>match f j with
  |some l1=>(match drAllL all f js with
   |some l2=>some (mergeL all l1 l2)
   |none=>none)
  |none=>none
theorem hasO_ok {all:List Oper} {p:Env×List Blk}:∀ {l:List (Env×List Blk)},hasO all p l=true→∃ q∈l,q.2=p.2∧∀ t∈dstsOf all,look p.1 t=look q.1 t
 |[],h=>by cases h
 |q::r,h=>by
  unfold hasO at h
  cases hb:(sameOn p.1 q.1 (dstsOf all)&&sameH p.2 q.2) with
  |true=>
   rw[Bool.and_eq_true] at hb
   exact⟨q,List.mem_cons_self ..,(sameH_eq hb.2).symm,sameOn_look hb.1⟩
  |false=>
   rw[hb,cond_false] at h
   obtain⟨q',h1,h2⟩:=hasO_ok h
   exact⟨q',List.mem_cons_of_mem _ h1,h2⟩
theorem mergeL_ok {all:List Oper}:∀ (l1 l2:List (Env×List Blk)),(∀ p∈l1,∃ q∈mergeL all l1 l2,q.2=p.2∧∀ t∈dstsOf all,look p.1 t=look q.1 t)∧(∀ p∈l2,p∈mergeL all l1 l2)∧(∀ q∈mergeL all l1 l2,q∈l1∨q∈l2)
 |[],l2=>⟨fun p hp=>(by cases hp),fun p hp=>hp,fun q hq=> .inr hq⟩
 |p::r,l2=>by
  unfold mergeL
  cases hb:hasO all p l2 with
  |true=>
   rw[cond_true]
   obtain⟨i1,i2,i3⟩:=mergeL_ok (all:=all) r l2
   refine⟨fun p' hp'=>?_,i2,fun q hq=>?_⟩
   ·rcases List.mem_cons.1 hp' with rfl|hp'
    ·obtain⟨q,h1,h2⟩:=hasO_ok hb
     exact⟨q,i2 q h1,h2⟩
    ·exact i1 p' hp'
   ·rcases i3 q hq with h|h
    ·exact .inl (List.mem_cons_of_mem _ h)
    ·exact .inr h
  |false=>
   rw[cond_false]
   obtain⟨i1,i2,i3⟩:=mergeL_ok (all:=all) r (p::l2)
   refine⟨fun p' hp'=>?_,fun q hq=>i2 q (List.mem_cons_of_mem _ hq),fun q hq=>?_⟩
   ·rcases List.mem_cons.1 hp' with rfl|hp'
    ·exact⟨_,i2 _ (List.mem_cons_self ..),rfl,fun _ _=>rfl⟩
    ·exact i1 p' hp'
   ·rcases i3 q hq with h|h
    ·exact .inl (List.mem_cons_of_mem _ h)
    ·rcases List.mem_cons.1 h with rfl|h
     ·exact .inl (List.mem_cons_self ..)
     ·exact .inr h
theorem drAllL_mem {all:List Oper} {f:Nat→Option (List (Env×List Blk))}:∀ {l:List Nat} {L:List (Env×List Blk)},drAllL all f l=some L→(∀ j∈l,∃ lj,f j=some lj∧∀ p∈lj,∃ q∈L,q.2=p.2∧∀ t∈dstsOf all,look p.1 t=look q.1 t)∧∀ q∈L,∃ j∈l,∃ lj,f j=some lj∧q∈lj
 |[],L,h=>by
  cases h
  exact⟨fun j hj=>(by cases hj),fun q hq=>(by cases hq)⟩
 |j::js,L,h=>by
  unfold drAllL at h
  split at h
  ·rename_i l1 hf
   split at h
   ·rename_i l2 hr
    cases h
    obtain⟨i1,i2⟩:=drAllL_mem hr
    obtain⟨m1,m2,m3⟩:=mergeL_ok (all:=all) l1 l2
    refine⟨fun j' hj'=>?_,fun q hq=>?_⟩
    ·rcases List.mem_cons.1 hj' with rfl|hj'
     ·exact⟨l1,hf,m1⟩
     ·obtain⟨lj,e1,e2⟩:=i1 j' hj'
      refine⟨lj,e1,fun p hp=>?_⟩
      obtain⟨q,h1,h2⟩:=e2 p hp
      exact⟨q,m2 q h1,h2⟩
    ·rcases m3 q hq with h|h
     ·exact⟨j,List.mem_cons_self ..,l1,hf,h⟩
     ·obtain⟨j',h1,h2⟩:=i2 q h
      exact⟨j',List.mem_cons_of_mem _ h1,h2⟩
   ·cases h
  ·cases h
section
variable (call:RC) (G:Gl) (T:Tab) (own:List Nat) (nt:Nat)
def evDrL (all:List Oper):Nat→Nat→List Nat→Env→List Blk→Option (List (Env×List Blk))
 |0,_,_,_,_=>none
 |n+1,m,ex,env,H=>
  bif Nat.ble all.length m then some [(env,H)] else
  bif memN m ex then evDrL all n (m+1) ex env H else
  match stepQ own all m ex with
  |some o=>(match qg G T own all o env H with
   |some v=>evDrL all n (m+1) ex (putE o.dst v env) H
   |none=>none)
  |none=>match firstQP own m ex 0 all with
   |some i=>(match all[i]? with
    |some o=>(match qg G T own all o env H with
     |some v=>evDrL all n m (i::ex) (putE o.dst v env) H
     |none=>none)
    |none=>none)
   |none=>(match readyP m ex 0 all with
    |[]=>none
    |js=>drAllL all (fun j=>match all[j]? with
     |some o=>(match gOp call G T own all o env H with
      |some (x,H')=>bif agB G T own all (putE o.dst x env) H' (agR own all (getL (clo all) j) m++agL own all (getL (clo all) j) ex) then evDrL all n m (j::ex) (putE o.dst x env) H' else none
      |none=>none)
     |none=>none) js)
end
section
variable {P:Program} {G:Gl} {T:Tab} {own:List Nat} {nt:Nat} {C:Cx} {call:RC} {ρ:Option Nat}
theorem evDrL_ok (hc:RCok P G call) {all:List Oper}:∀ (n m:Nat) (ex:List Nat) (env:Env) (H:List Blk) {L:List (Env×List Blk)},evDrL call G T own all n m ex env H=some L→(∃ N,DrP P G T own all N m ex env H (fun e h=>∃ p∈L,h=p.2∧EqE e p.1))∧∀ p∈L,∀ t,t∉dstsOf all→look p.1 t=look env t
 |0,m,ex,env,H,L,h=>by cases h
 |n+1,m,ex,env,H,L,h=>by
  unfold evDrL at h
  cases h1:Nat.ble all.length m with
  |true=>
   rw[h1,cond_true] at h
   cases h
   refine⟨⟨1,dr_doneK h1 ⟨_,List.mem_singleton.2 rfl,rfl,EqE.refl _⟩⟩,fun p hp _ _=>?_⟩
   rw[List.mem_singleton.1 hp]
  |false=>
   rw[h1,cond_false] at h
   cases h2:memN m ex with
   |true=>
    rw[h2,cond_true] at h
    obtain⟨⟨N,hN⟩,hl⟩:=evDrL_ok hc n (m+1) ex env H h
    exact⟨⟨N,dr_adv h2 hN⟩,hl⟩
   |false=>
    rw[h2,cond_false] at h
    split at h
    ·rename_i o hs
     split at h
     ·rename_i v hv
      obtain⟨⟨N,hN⟩,hl⟩:=evDrL_ok hc n (m+1) ex _ H h
      obtain⟨g1,g2,g3,g4⟩:=stepQ_some hs
      refine⟨⟨N+1,fun L hL=>?_⟩,fun p hp t ht=>(hl p hp t ht).trans (putE_look g1 ht)⟩
      exact .inl ⟨m,_,v,g1,not_mem_next hL g2,g3,deps_LP hL g4,hv,hN (m::L) (LP_next hL)⟩
     ·cases h
    ·split at h
     ·rename_i i hf
      split at h
      ·rename_i o ho
       split at h
       ·rename_i v hv
        obtain⟨⟨N,hN⟩,hl⟩:=evDrL_ok hc n m (i::ex) _ H h
        refine⟨⟨N+1,fun L hL=>?_⟩,fun p hp t ht=>(hl p hp t ht).trans (putE_look ho ht)⟩
        obtain⟨k,o',g1,g2,g3,g4,g5⟩:=firstQP_some hf
        rw[Nat.zero_add] at g1
        subst g1
        rw[ho] at g2
        cases g2
        exact .inl ⟨i,_,v,ho,not_LP hL g3,g4,deps_LP hL g5,hv,hN (i::L) (LP_ins hL i)⟩
       ·cases h
      ·cases h
     ·rename_i hf
      split at h
      ·cases h
      ·rename_i js hne
       obtain⟨hall,hback⟩:=drAllL_mem h
       have open_:∀ {j:Nat} {lj:List (Env×List Blk)},(match all[j]? with
        |some o=>(match gOp call G T own all o env H with
         |some (x,H')=>bif agB G T own all (putE o.dst x env) H' (agR own all (getL (clo all) j) m++agL own all (getL (clo all) j) ex) then evDrL call G T own all n m (j::ex) (putE o.dst x env) H' else none
         |none=>none)
        |none=>none)=some lj→∃ o x H1,all[j]? =some o∧gOp call G T own all o env H=some (x,H1)∧agB G T own all (putE o.dst x env) H1 (agR own all (getL (clo all) j) m++agL own all (getL (clo all) j) ex)=true∧evDrL call G T own all n m (j::ex) (putE o.dst x env) H1=some lj:=by
        intro j lj hfj
        split at hfj
        ·rename_i o ho
         split at hfj
         ·rename_i x H1 hg
          cases hb:agB G T own all (putE o.dst x env) H1 (agR own all (getL (clo all) j) m++agL own all (getL (clo all) j) ex) with
          |false=>rw[hb] at hfj;cases hfj
          |true=>rw[hb,cond_true] at hfj;exact⟨o,x,H1,ho,hg,hb,hfj⟩
         ·cases hfj
        ·cases hfj
       have hrest:∀ p∈L,∀ t,t∉dstsOf all→look p.1 t=look env t:=by
        intro p hp t ht
        obtain⟨j,hj,lj,e1,e2⟩:=hback p hp
        obtain⟨o,x,H1,ho,hg,hb,he⟩:=open_ e1
        exact((evDrL_ok hc n m (j::ex) _ H1 he).2 p e2 t ht).trans (putE_look ho ht)
       obtain⟨N,hN⟩:=common (P:=fun N j=>∃ o,all[j]? =some o∧exG P G T own all o env H fun x H1=>AgP G T own all j m ex (putE o.dst x env) H1∧(DrP P G T own all) N m (j::ex) (putE o.dst x env) H1 (fun e h=>∃ p∈L,h=p.2∧EqE e p.1))
        (fun j n n' hn ⟨o,ho,hx⟩=>⟨o,ho,exG_mono (fun x H1 hh=>⟨hh.1,DrP.le hn hh.2⟩) hx⟩) (readyP m ex 0 all) (fun j hj=>by
         obtain⟨lj,e1,e2⟩:=hall j hj
         obtain⟨o,x,H1,ho,hg,hb,he⟩:=open_ e1
         obtain⟨⟨N,hN⟩,hl2⟩:=evDrL_ok hc n m (j::ex) _ H1 he
         refine⟨N,o,ho,gOp_exG hc hg ⟨agB_ok hb,DrP.monoK (fun e h hh=>?_) hN⟩⟩
         obtain⟨p,hp,h3,h4⟩:=hh
         obtain⟨q,hq,h5,h6⟩:=e2 p hp
         refine⟨q,hq,h3.trans h5.symm,h4.trans fun t=>?_⟩
         by_cases ht:t∈dstsOf all
         ·exact h6 t ht
         ·rw[hl2 p hp t ht,putE_look ho ht,hrest q hq t ht])
       cases hr:readyP m ex 0 all with
       |nil=>exact(hne hr).elim
       |cons j0 js0=>
        rw[hr] at hN
        exact⟨⟨N+1,loud_any hf hr hN⟩,hrest⟩
end
def idxN (id:Nat):List Nat→Nat→Option Nat
 |[],_=>none
 |k::r,i=>bif Nat.beq k id then some i else idxN id r (i+1)
theorem idxN_get {id:Nat}:∀ {ks:List Nat} {i j:Nat},idxN id ks i=some j→∃ k,j=i+k∧ks[k]? =some id
 |[],i,j,h=>by cases h
 |k::r,i,j,h=>by
  unfold idxN at h
  cases hb:Nat.beq k id with
  |true=>rw[hb] at h;cases h;exact⟨0,rfl,by rw[Nat.eq_of_beq_eq_true hb];rfl⟩
  |false=>
   rw[hb,cond_false] at h
   obtain⟨m,h1,h2⟩:=idxN_get h
   exact⟨m+1,by omega,h2⟩
def renV (H:List Blk) (n:Nat) (ks:List Nat):Nat→SV→Option SV
 |0,_=>none
 |d+1,x=>bif x.under n then some x else match x with
  | .agg fs=>(match frzVL (renV H n ks d) fs with
   |some ys=>some (.agg ys)
   |none=>none)
  | .tuple fs=>(match frzVL (renV H n ks d) fs with
   |some ys=>some (.tuple ys)
   |none=>none)
  | .list sz fs=>(match frzVL (renV H n ks d) fs with
   |some ys=>some (.list sz ys)
   |none=>none)
  | .fn f xs ys=>(match frzVL (renV H n ks d) xs with
   |some us=>(match frzVL (renV H n ks d) ys with
    |some vs=>some (.fn f us vs)
    |none=>none)
   |none=>none)
  | .sl id g off len=>(match idxN id ks 0 with
   |some i=>(match H[id]? with
    |some (.cells g' sz vals)=>bif Nat.beq g g' then some (.sl (n+i) 0 off len) else none
    |_=>none)
   |none=>none)
  | .ptr id g j o=>(match idxN id ks 0 with
   |some i=>(match H[id]? with
    |some (.cells g' sz vals)=>bif Nat.beq g g' then some (.ptr (n+i) 0 j o) else none
    |_=>none)
   |none=>none)
  | .map id=>(match idxN id ks 0 with
   |some i=>(match H[id]? with
    |some (.map kd es)=>some (.map (n+i))
    |_=>none)
   |none=>none)
  |_=>none
def keepOf (ks:List Nat):Keep:=ks.map fun id=>(id,0)
theorem frzVL_okK {H:List Blk} {n:Nat} {ks:Keep} {f:SV→Option SV} (hf:∀ x y,f x=some y→Frz H n ks x y):∀ {xs ys:List SV},frzVL f xs=some ys→FrzL H n ks xs ys
 |[],ys,h=>by cases h;exact .nil
 |x::r,ys,h=>by
  unfold frzVL at h
  split at h
  ·rename_i y hy
   split at h
   ·rename_i zs hzs
    cases h
    exact .cons _ _ _ _ (hf _ _ hy) (frzVL_okK hf hzs)
   ·cases h
  ·cases h
theorem keepOf_get {ks:List Nat} {i id:Nat} (h:ks[i]? =some id):(keepOf ks)[i]? =some (id,0):=by
 unfold keepOf
 rw[List.getElem?_map,h];rfl
theorem renV_ok {H:List Blk} {n:Nat} {ks:List Nat}:∀ (d:Nat) (x y:SV),renV H n ks d x=some y→Frz H n (keepOf ks) x y
 |0,x,y,h=>by cases h
 |d+1,x,y,h=>by
  unfold renV at h
  cases hu:x.under n with
  |true=>rw[hu,cond_true] at h;cases h;exact .same _ hu
  |false=>
   rw[hu,cond_false] at h
   cases x with
   |agg fs=>
    simp only at h
    split at h
    ·rename_i ys hy;cases h;exact .agg _ _ (frzVL_okK (renV_ok d) hy)
    ·cases h
   |tuple fs=>
    simp only at h
    split at h
    ·rename_i ys hy;cases h;exact .tuple _ _ (frzVL_okK (renV_ok d) hy)
    ·cases h
   |list sz fs=>
    simp only at h
    split at h
    ·rename_i ys hy;cases h;exact .list _ _ _ (frzVL_okK (renV_ok d) hy)
    ·cases h
   |fn f xs ys=>
    simp only at h
    split at h
    ·rename_i us hus
     split at h
     ·rename_i vs hvs;cases h;exact .fn _ _ _ _ _ (frzVL_okK (renV_ok d) hus) (frzVL_okK (renV_ok d) hvs)
     ·cases h
    ·cases h
   |sl id g off len=>
    simp only at h
    split at h
    ·rename_i i hi
     obtain⟨k,rfl,hk⟩:=idxN_get hi
     split at h
     ·rename_i g' sz vals hH
      cases hg:Nat.beq g g' with
      |false=>rw[hg] at h;cases h
      |true=>
       rw[hg,cond_true] at h
       cases h
       have hg:=Nat.eq_of_beq_eq_true hg
       subst hg
       have:=Frz.keepSl (H:=H) (n:=n) (ks:=keepOf ks) k id 0 g off len sz vals (keepOf_get hk) hH (Nat.zero_le _)
       simpa using this
     ·cases h
    ·cases h
   |ptr id g j o=>
    simp only at h
    split at h
    ·rename_i i hi
     obtain⟨k,rfl,hk⟩:=idxN_get hi
     split at h
     ·rename_i g' sz vals hH
      cases hg:Nat.beq g g' with
      |false=>rw[hg] at h;cases h
      |true=>
       rw[hg,cond_true] at h
       cases h
       have hg:=Nat.eq_of_beq_eq_true hg
       subst hg
       have:=Frz.keepPtr (H:=H) (n:=n) (ks:=keepOf ks) k id 0 g j o sz vals (keepOf_get hk) hH (Nat.zero_le _)
       simpa using this
     ·cases h
    ·cases h
   |map id=>
    simp only at h
    split at h
    ·rename_i i hi
     obtain⟨k,rfl,hk⟩:=idxN_get hi
     split at h
     ·rename_i kd es hH
      cases h
      have:=Frz.keepMap (H:=H) (n:=n) (ks:=keepOf ks) k id 0 kd es (keepOf_get hk) hH
      simpa using this
     ·cases h
    ·cases h
   |_=>cases h
def idsL (f:SV→List Nat):List SV→List Nat
 |[]=>[]
 |x::r=>f x++idsL f r
def idsV (n:Nat):Nat→SV→List Nat
 |0,_=>[]
 |d+1,x=>match x with
  | .agg fs=>idsL (idsV n d) fs
  | .tuple fs=>idsL (idsV n d) fs
  | .list _ fs=>idsL (idsV n d) fs
  | .fn _ xs ys=>idsL (idsV n d) xs++idsL (idsV n d) ys
  | .sl id _ _ _=>bif Nat.ble n id then [id] else []
  | .ptr id _ _ _=>bif Nat.ble n id then [id] else []
  | .map id=>bif Nat.ble n id then [id] else []
  |_=>[]
def addN:List Nat→List Nat→List Nat
 |ks,[]=>ks
 |ks,x::r=>bif memN x ks then addN ks r else addN (ks++[x]) r
def idsB (n:Nat) (H:List Blk):List Nat→List Nat
 |[]=>[]
 |id::r=>(match H[id]? with
  |some (.cells _ _ vals)=>idsL (idsV n 8) vals
  |some (.map _ es)=>es.foldr (fun p l=>idsV n 8 p.2++l) []
  |_=>[])++idsB n H r
def nodN:List Nat→Bool
 |[]=>true
 |k::r=>bif memN k r then false else nodN r
theorem nodN_ok:∀ {ks:List Nat},nodN ks=true→ks.Nodup
 |[],_=>List.nodup_nil
 |k::r,h=>by
  unfold nodN at h
  cases hb:memN k r with
  |true=>rw[hb] at h;cases h
  |false=>
   rw[hb,cond_false] at h
   refine List.nodup_cons.2 ⟨fun hm=>?_,nodN_ok h⟩
   rw[memN_iff.2 hm] at hb
   cases hb
def renE (f:SV→Option SV) (n:Nat):List (SV×SV)→Option (List (SV×SV))
 |[]=>some []
 |(k,x)::r=>bif k.under n then (match f x with
  |some y=>(match renE f n r with
   |some r'=>some ((k,y)::r')
   |none=>none)
  |none=>none) else none
theorem renE_ok {H:List Blk} {n:Nat} {ks:Keep} {f:SV→Option SV} (hf:∀ x y,f x=some y→Frz H n ks x y):∀ {es fs:List (SV×SV)},renE f n es=some fs→FrzE H n ks es fs
 |[],fs,h=>by cases h;exact .nil
 |(k,x)::r,fs,h=>by
  unfold renE at h
  cases hk:k.under n with
  |false=>rw[hk] at h;cases h
  |true=>
   rw[hk,cond_true] at h
   split at h
   ·rename_i y hy
    split at h
    ·rename_i r' hr;cases h;exact .cons _ _ _ _ _ hk (hf _ _ hy) (renE_ok hf hr)
    ·cases h
   ·cases h
def keepBs (H:List Blk) (n:Nat) (ks:List Nat):List Nat→Option (List Blk)
 |[]=>some []
 |id::r=>bif Nat.ble n id then (match H[id]? with
  |some (.cells _ sz vals)=>(match frzVL (renV H n ks 12) vals with
   |some ys=>(match keepBs H n ks r with
    |some bs=>some (.cells 0 sz ys::bs)
    |none=>none)
   |none=>none)
  |some (.map kd es)=>(match renE (renV H n ks 12) n es with
   |some fs=>(match keepBs H n ks r with
    |some bs=>some (.map kd fs::bs)
    |none=>none)
   |none=>none)
  |_=>none) else none
theorem keepBs_ok {H:List Blk} {n:Nat} {ks:List Nat}:∀ {r:List Nat} {bs:List Blk},keepBs H n ks r=some bs→KeepB H n (keepOf ks) (keepOf r) bs
 |[],bs,h=>by cases h;exact .nil
 |id::r,bs,h=>by
  unfold keepBs at h
  cases hn:Nat.ble n id with
  |false=>rw[hn] at h;cases h
  |true=>
   rw[hn,cond_true] at h
   have hn:=Nat.le_of_ble_eq_true hn
   split at h
   ·rename_i g sz vals hH
    split at h
    ·rename_i ys hy
     split at h
     ·rename_i bs' hb;cases h;exact .cells id 0 _ _ _ _ _ _ hH hn (Nat.zero_le _) (frzVL_okK (renV_ok 12) (by rw[List.drop_zero];exact hy)) (keepBs_ok hb)
     ·cases h
    ·cases h
   ·rename_i kd es hH
    split at h
    ·rename_i fs hf
     split at h
     ·rename_i bs' hb;cases h;exact .map id _ _ _ _ _ hH hn (renE_ok (renV_ok 12) hf) (keepBs_ok hb)
     ·cases h
    ·cases h
   ·cases h
def envT (f:SV→Option SV) (env:Env):List Nat→Env
 |[]=>[]
 |t::r=>match lookB env t with
  |some x=>(match f x with
   |some y=>(t,y)::envT f env r
   |none=>envT f env r)
  |none=>envT f env r
def envR (n:Nat) (ts:List Nat) (seen:List Nat):Env→Env
 |[]=>[]
 |(t,x)::r=>bif memN t ts||memN t seen then envR n ts seen r else bif x.under n then (t,x)::envR n ts (t::seen) r else envR n ts (t::seen) r
theorem envT_ok {H:List Blk} {n:Nat} {ks:Keep} {f:SV→Option SV} (hf:∀ x y,f x=some y→Frz H n ks x y) {env:Env}:∀ (ts:List Nat),∀ p∈envT f env ts,∃ x,look env p.1=some x∧Frz H n ks x p.2
 |[],p,hp=>by cases hp
 |t::r,p,hp=>by
  unfold envT at hp
  split at hp
  ·rename_i x hx
   rw[lookB_eq] at hx
   split at hp
   ·rename_i y hy
    rcases List.mem_cons.1 hp with rfl|hp
    ·exact⟨x,hx,hf _ _ hy⟩
    ·exact envT_ok hf r p hp
   ·exact envT_ok hf r p hp
  ·exact envT_ok hf r p hp
theorem envR_ok {n:Nat} {ts:List Nat}:∀ (env:Env) (seen:List Nat),∀ p∈envR n ts seen env,p.1∉seen∧look env p.1=some p.2∧p.2.under n=true
 |[],seen,p,hp=>by cases hp
 |(t,x)::r,seen,p,hp=>by
  unfold envR at hp
  have step:∀ (seen':List Nat),(∀ s,s∈seen→s∈seen')→(t∈ts∨t∈seen')→p∈envR n ts seen' r→(p.1≠t)→p.1∉seen∧look ((t,x)::r) p.1=some p.2∧p.2.under n=true:=by
   intro seen' h1 h2 h3 h4
   obtain⟨g1,g2,g3⟩:=envR_ok r seen' p h3
   refine⟨fun h=>g1 (h1 _ h),?_,g3⟩
   unfold look
   rw[if_neg h4]
   exact g2
  cases hb:(memN t ts||memN t seen) with
  |true=>
   rw[hb,cond_true] at hp
   rw[Bool.or_eq_true] at hb
   have hne:p.1≠t:=by
    intro e
    obtain⟨g1,g2,g3⟩:=envR_ok r seen p hp
    have hts:p.1∉ts:=envR_ts r seen p hp
    rcases hb with hb|hb
    ·exact hts (e ▸ memN_iff.1 hb)
    ·exact g1 (e ▸ memN_iff.1 hb)
   exact step seen (fun s h=>h) (by rcases hb with hb|hb;exact .inl (memN_iff.1 hb);exact .inr (memN_iff.1 hb)) hp hne
  |false=>
   rw[hb,cond_false] at hp
   rw[Bool.or_eq_false_iff] at hb
   have hts:t∉seen:=fun h=>by rw[memN_iff.2 h] at hb;cases hb.2
   cases hu:x.under n with
   |true=>
    rw[hu,cond_true] at hp
    rcases List.mem_cons.1 hp with rfl|hp
    ·refine⟨hts,?_,hu⟩
     unfold look
     rw[if_pos rfl]
    ·have hne:p.1≠t:=fun e=>(envR_ok r (t::seen) p hp).1 (e ▸ List.mem_cons_self ..)
     exact step (t::seen) (fun s h=>List.mem_cons_of_mem _ h) (.inr (List.mem_cons_self ..)) hp hne
   |false=>
    rw[hu,cond_false] at hp
    have hne:p.1≠t:=fun e=>(envR_ok r (t::seen) p hp).1 (e ▸ List.mem_cons_self ..)
    exact step (t::seen) (fun s h=>List.mem_cons_of_mem _ h) (.inr (List.mem_cons_self ..)) hp hne
where
 envR_ts {n:Nat} {ts:List Nat}:∀ (env:Env) (seen:List Nat),∀ p∈envR n ts seen env,p.1∉ts
 |[],seen,p,hp=>by cases hp
 |(t,x)::r,seen,p,hp=>by
  unfold envR at hp
  cases hb:(memN t ts||memN t seen) with
  |true=>rw[hb,cond_true] at hp;exact envR_ts r seen p hp
  |false=>
   rw[hb,cond_false] at hp
   rw[Bool.or_eq_false_iff] at hb
   cases hu:x.under n with
   |true=>
    rw[hu,cond_true] at hp
    rcases List.mem_cons.1 hp with rfl|hp
    ·intro h;rw[memN_iff.2 h] at hb;cases hb.1
    ·exact envR_ts r _ p hp
   |false=>rw[hu,cond_false] at hp;exact envR_ts r _ p hp
theorem subEnvF_of {H:List Blk} {n:Nat} {ks:Keep} {env:Env}:∀ {env2:Env},(∀ p∈env2,∃ x,look env p.1=some x∧Frz H n ks x p.2)→subEnvF H n ks env2 env
 |[],_=>trivial
 |(t,y)::r,h=>⟨h (t,y) (List.mem_cons_self ..),subEnvF_of fun p hp=>h p (List.mem_cons_of_mem _ hp)⟩
def namedV (n:Nat) (env:Env):List Nat→List Nat
 |[]=>[]
 |t::r=>(match lookB env t with
  |some x=>idsV n 8 x
  |none=>[])++namedV n env r
def keysC (n:Nat) (ts:List Nat) (env:Env) (H:List Blk):List Nat:=
 let k0:=addN [] (namedV n env ts)
 let k1:=addN k0 (idsB n H k0)
 addN k1 (idsB n H k1)
def canonA (n:Nat) (ts ks:List Nat) (env:Env) (H:List Blk):Option (Env×List Blk):=
 bif Nat.ble n H.length&&(H.take n).all (·.underB n)&&nodN ks then (match keepBs H n ks ks with
  |some KB=>some (envT (renV H n ks 12) env ts++envR n ts [] env,H.take n++KB)
  |none=>none) else none
def canonE (n:Nat) (ts:List Nat) (p:Env×List Blk):Option (Env×List Blk):=canonA n ts (keysC n ts p.1 p.2) p.1 p.2
theorem canonA_ok {G:Gl} {nt:Nat} {C:Cx} {n:Nat} {ts ks:List Nat} {env:Env} {H:List Blk} {q:Env×List Blk} (hG:GClosed G) (hB:Based G n) (hC:C.H.length≤n) (h:canonA n ts ks env H=some q):Wk G nt C ⟨env,H⟩ ⟨q.1,q.2⟩:=by
 unfold canonA at h
 cases hb:(Nat.ble n H.length&&(H.take n).all (·.underB n)&&nodN ks) with
 |false=>rw[hb] at h;cases h
 |true=>
  rw[hb,cond_true] at h
  simp only[Bool.and_eq_true] at hb
  obtain⟨⟨h1,h2⟩,h3⟩:=hb
  split at h
  ·rename_i KB hk
   cases h
   have hlen:(H.take n).length=n:=by rw[List.length_take];exact Nat.min_eq_left (Nat.le_of_ble_eq_true h1)
   have hcl:closed (H.take n):=fun B hB=>by rw[hlen];exact Blk.underB_under (List.all_eq_true.1 h2 B hB)
   have hsplit:H.take n++H.drop n=H:=List.take_append_drop ..
   have hk':=keepBs_ok hk
   have hnd:((keepOf ks).map (·.1)).Nodup:=by
    have:(keepOf ks).map (·.1)=ks:=by simp[keepOf,List.map_map,Function.comp_def]
    rw[this];exact nodN_ok h3
   have key:Wk G nt C ⟨env,H.take n++H.drop n⟩ ⟨envT (renV H n ks 12) env ts++envR n ts [] env,H.take n++KB⟩:=by
    refine Wk.keep (keepOf ks) KB hG (by rw[hlen];exact hB) (by rw[hlen];exact hC) hcl ⟨by rw[hlen,hsplit];exact hk',hnd⟩ ?_
    rw[hlen,hsplit]
    refine subEnvF_of fun p hp=>?_
    rcases List.mem_append.1 hp with hp|hp
    ·exact envT_ok (renV_ok 12) ts p hp
    ·obtain⟨_,g2,g3⟩:=envR_ok env [] p hp
     exact⟨_,g2,.same _ g3⟩
   rwa[hsplit] at key
  ·cases h
def sameEnv:Env→Env→Bool
 |[],ys=>(match ys with|[]=>true|_=>false)
 |(t,x)::r,ys=>(match ys with|(s,y)::r'=>Nat.beq t s&&SV.same x y&&sameEnv r r'|[]=>false)
theorem sameEnv_eq:∀ {a b:Env},sameEnv a b=true→a=b
 |[],b,h=>by cases b with
  |nil=>rfl
  |cons=>simp[sameEnv] at h
 |(t,x)::r,b,h=>by cases b with
  |nil=>simp[sameEnv] at h
  |cons p r'=>
   obtain⟨s,y⟩:=p
   simp only[sameEnv,Bool.and_eq_true] at h
   rw[Nat.eq_of_beq_eq_true h.1.1,SV.same_both.1 _ _ h.1.2,sameEnv_eq h.2]
def allSame (n:Nat) (ts:List Nat) (q:Env×List Blk):List (Env×List Blk)→Bool
 |[]=>true
 |p::r=>match canonE n ts p with
  |some q'=>bif sameEnv q.1 q'.1&&sameH q.2 q'.2 then allSame n ts q r else false
  |none=>false
theorem allSame_ok {n:Nat} {ts:List Nat} {q:Env×List Blk}:∀ {l:List (Env×List Blk)},allSame n ts q l=true→∀ p∈l,canonE n ts p=some q
 |p::r,h,p',hp'=>by
  unfold allSame at h
  split at h
  ·rename_i q' hq
   cases hb:(sameEnv q.1 q'.1&&sameH q.2 q'.2) with
   |false=>rw[hb] at h;cases h
   |true=>
    rw[hb,cond_true] at h
    rw[Bool.and_eq_true] at hb
    rcases List.mem_cons.1 hp' with rfl|hp'
    ·rw[hq]
     obtain⟨a,b⟩:=q
     obtain⟨c,d⟩:=q'
     have e1:=sameEnv_eq hb.1
     have e2:=sameH_eq hb.2
     simp only at e1 e2
     rw[e1,e2]
    ·exact allSame_ok h p' hp'
  ·cases h
def oneOf (n:Nat) (ts:List Nat):List (Env×List Blk)→Option (Env×List Blk)
 |[]=>none
 |p::r=>match r with
  |[]=>some p
  |_=>(match canonE n ts p with
   |some q=>bif allSame n ts q r then some q else none
   |none=>none)
theorem oneOf_ok {G:Gl} {nt:Nat} {C:Cx} {n:Nat} {ts:List Nat} {L:List (Env×List Blk)} {q:Env×List Blk} (hG:GClosed G) (hB:Based G n) (hC:C.H.length≤n) (h:oneOf n ts L=some q):∀ p∈L,Wk G nt C ⟨p.1,p.2⟩ ⟨q.1,q.2⟩:=by
 unfold oneOf at h
 split at h
 ·cases h
 ·rename_i p r
  split at h
  ·cases h
   intro p' hp'
   rw[List.mem_singleton.1 hp']
   exact Wk.refl _
  ·split at h
   ·rename_i q' hq
    cases hb:allSame n ts q' r with
    |false=>rw[hb] at h;cases h
    |true=>
     rw[hb,cond_true] at h
     cases h
     intro p' hp'
     rcases List.mem_cons.1 hp' with rfl|hp'
     ·exact canonA_ok hG hB hC hq
     ·exact canonA_ok hG hB hC (allSame_ok hb p' hp')
   ·cases h
end
section
section
variable (call:RC) (G:Gl) (T:Tab) (own:List Nat) (nt:Nat)
def evC2:Nat→Code→Env→List Blk→Option (Exit×Env×List Blk)
 |0,_,_,_=>none
 |n+1,cd,env,H=>match cd with
  | .skip=>some (.normal,env,H)
  | .label _=>some (.normal,env,H)
  | .ret=>some (.ret,env,H)
  | .exit id=>some (.exit id,env,H)
  | .cond x p q=>(match evB G env x with
   |some (.bool true)=>evC2 n p env H
   |some (.bool false)=>evC2 n q env H
   |_=>none)
  | .seq x y=>(match evC2 n x env H with
   |some (.normal,env',H')=>evC2 n y env' H'
   |r=>r)
  | .block id x=>(match evC2 n x env H with
   |some (.exit id',env',H')=>if id'=id then some (.normal,env',H') else some (.exit id',env',H')
   |r=>r)
  | .loop x=>(match evC2 n x env H with
   |some (.normal,env',H')=>evC2 n (.loop x) (ded [] env') H'
   |r=>r)
  | .region _ ops false=>(match evOps call G T own nt ops.toList ops.toList env H with
   |some (env',H')=>some (.normal,env',H')
   |none=>none)
  | .region _ ops true=>bif drawOK nt ops.toList then (match evDrL call G T own ops.toList 300 0 [] env H with
   |some L=>(match oneOf H.length (dstsOf ops.toList) L with
    |some p=>some (.normal,p.1,p.2)
    |none=>none)
   |none=>none) else none
  |_=>none
end
section
variable {P:Program} {G:Gl} {T:Tab} {own:List Nat} {nt:Nat} {C:Cx} {call:RC} {ρ:Option Nat}
theorem evC2_ok (hG:GClosed G) (hB:Based G C.H.length) (hT:TabOK P T) (hm:P.follows .mixedOrders=true) (hc:RCok P G call):∀ (N n:Nat),n≤N→∀ (cd:Code) (env:Env) (H:List Blk) (e:Exit) (env':Env) (H':List Blk),evC2 call G T own nt n cd env H=some (e,env',H')→
 AWP P G nt ρ C cd (fun e2 s=>e2=e∧s.H=H'∧EqE s.env env') ⟨env,H⟩:=by
 intro N
 induction N with
 |zero=>
  intro n hn cd env H e env' H' h
  obtain rfl:n=0:=by omega
  cases h
 |succ N ih=>
  intro n hn cd env H e env' H' h
  cases n with
  |zero=>cases h
  |succ n=>
  have hn:n≤N:=by omega
  have ihn:=ih n hn
  unfold evC2 at h
  split at h
  ·cases h;exact AWP.skip ⟨rfl,rfl,EqE.refl _⟩
  ·cases h;exact fun c a hc hi hg=>wpIn_label ⟨_,c,⟨rfl,rfl,EqE.refl _⟩,hc,rfl,hi,hg⟩
  ·cases h;exact AWP.ret ⟨rfl,rfl,EqE.refl _⟩
  ·cases h;exact AWP.exit ⟨rfl,rfl,EqE.refl _⟩
  ·rename_i x p q
   split at h
   ·rename_i hv
    rw[evB_eq] at hv
    refine AWP.cond ⟨_,hv,true,rfl,?_⟩
    exact⟨fun _=>ihn _ _ _ _ _ _ h,fun e=>(by cases e)⟩
   ·rename_i hv
    rw[evB_eq] at hv
    refine AWP.cond ⟨_,hv,false,rfl,?_⟩
    exact⟨fun e=>(by cases e),fun _=>ihn _ _ _ _ _ _ h⟩
   ·cases h
  ·rename_i x y
   split at h
   ·rename_i env1 H1 h1
    refine AWP.seq (AWP.mono (ihn _ _ _ _ _ _ h1) ?_)
    rintro e2 ⟨envx,Hx⟩ ⟨rfl,rfl,he⟩
    simp only at he
    exact AWP.wk (Wk.env fun t x hx=>(he t).trans hx) (ihn _ _ _ _ _ _ h)
   ·rename_i r hr
    refine AWP.seq (AWP.mono (ihn _ _ _ _ _ _ h) ?_)
    rintro e2 ⟨envx,Hx⟩ ⟨rfl,rfl,he⟩
    simp only at he
    cases e2 with
    |normal=>exact(hr _ _ h).elim
    |_=>exact⟨rfl,rfl,he⟩
  ·rename_i id x
   split at h
   ·rename_i id' env1 H1 h1
    refine AWP.block (AWP.mono (ihn _ _ _ _ _ _ h1) ?_)
    rintro e2 ⟨envx,Hx⟩ ⟨rfl,rfl,he⟩
    simp only at he
    by_cases hid:id'=id
    ·rw[if_pos hid] at h
     cases h
     simp only[hid,if_true]
     exact⟨trivial,trivial,he⟩
    ·rw[if_neg hid] at h
     cases h
     simp only[hid,if_false]
     exact⟨trivial,trivial,he⟩
   ·rename_i r hr
    refine AWP.block (AWP.mono (ihn _ _ _ _ _ _ h) ?_)
    rintro e2 ⟨envx,Hx⟩ ⟨rfl,rfl,he⟩
    simp only at he
    cases e2 with
    |exit id'=>exact(hr _ _ _ h).elim
    |_=>exact⟨rfl,rfl,he⟩
  ·rename_i x
   have h0:evC2 call G T own nt (n+1) (.loop x) env H=some (e,env',H'):=by unfold evC2;exact h
   refine AWP.loopW (fun m s=>m≤n∧evC2 call G T own nt (m+1) (.loop x) s.env s.H=some (e,env',H')) n ⟨env,H⟩ (Wk.env fun t x hx=>hx) ⟨Nat.le_refl _,h0⟩ ?_
   rintro m ⟨env0,H0⟩ ⟨hmn,hr⟩
   unfold evC2 at hr
   simp only at hr
   split at hr
   ·rename_i env1 H1 h1
    refine AWP.mono (ih m (by omega) _ _ _ _ _ _ h1) ?_
    rintro e2 ⟨envx,Hx⟩ ⟨rfl,rfl,he⟩
    simp only at he
    cases m with
    |zero=>cases h1
    |succ m=>exact⟨m,⟨ded [] env1,_⟩,by omega,Wk.env (fun t x hx=>(he t).trans (ded_look _ _ _ _ hx).2),by omega,hr⟩
   ·rename_i r hr2
    refine AWP.mono (ih m (by omega) _ _ _ _ _ _ hr) ?_
    rintro e2 ⟨envx,Hx⟩ ⟨rfl,rfl,he⟩
    simp only at he
    cases e2 with
    |normal=>exact(hr2 _ _ hr).elim
    |_=>exact⟨rfl,rfl,he⟩
  ·rename_i ops
   split at h
   ·rename_i env1 H1 h1
    cases h
    exact AWP.region hT (evOps_ok hc _ h1 ⟨rfl,rfl,EqE.refl _⟩)
   ·cases h
  ·rename_i ops
   cases hd:drawOK nt ops.toList with
   |false=>rw[hd] at h;cases h
   |true=>
    rw[hd,cond_true] at h
    split at h
    ·rename_i L h1
     split at h
     ·rename_i p ho
      cases h
      obtain⟨⟨N2,hN⟩,_⟩:=evDrL_ok (P:=P) hc _ _ _ _ _ h1
      intro c0 a0 hc0 hi0 hg0
      have hle:C.H.length≤H.length:=by
       have:=Grow.length hg0
       rw[hc0] at this
       exact this
      have hone:=oneOf_ok (nt:=nt) (C:=C) hG (fun C0 h0=>Nat.le_trans (hB C0 h0) hle) hle ho
      refine AWP.monoW (Q:=fun e2 s=>e2=Exit.normal∧∃ q∈L,s.H=q.2∧EqE s.env q.1) (AWP.draw hT hm hd (DrP.monoK (fun e h hh=>⟨rfl,hh⟩) hN [] (fun i=>by simp[LP,memN,Nat.blt_eq]))) ?_ c0 a0 hc0 hi0 hg0
      rintro e2 ⟨envx,Hx⟩ ⟨rfl,q,hq,rfl,he⟩
      exact⟨⟨p.1,p.2⟩,Wk.trans (Wk.env fun t x hx=>(he t).trans hx) (hone q hq),rfl,rfl,EqE.refl _⟩
     ·cases h
    ·cases h
  ·cases h
end
section
variable (P:Program) (G:Gl) (T:Tab) (ow:FuncId→List Nat) (gc:FuncId→Bool) (ov:RC) (fuel:Nat)
def evF2:Nat→RC
 |0=>fun _ _ _=>none
 |d+1=>fun f args H=>match ov f args H with
  |some r=>some r
  |none=>match P.funcs[f]? with
   |some fn=>(match fn.body with
    |some cd=>bif Nat.ble args.length fn.ntmps then (match evC2 (evF2 d) G T (ow f) fn.ntmps fuel cd (initEnv args 0) H with
     |some (e,env,H')=>(match e with
      | .ret=>ob (resL T env H' fn.results.toList) fun xs=>some (bif gc f then gcR H.length (resSV xs) H' else (resSV xs,H'))
      | .normal=>ob (resL T env H' fn.results.toList) fun xs=>some (bif gc f then gcR H.length (resSV xs) H' else (resSV xs,H'))
      |_=>none)
     |none=>none) else none
    |none=>none)
   |none=>none
end
theorem evF2_ok {P:Program} {G:Gl} {T:Tab} {ow:FuncId→List Nat} {gc:FuncId→Bool} {ov:RC} {fuel:Nat} (hG:GClosed G) (ho:RCok P G ov) (hT:TabOK P T) (hm:P.follows .mixedOrders=true) (hn:∀ (f:FuncId) (fn:Func),P.funcs[f]? =some fn→(fn.name== "runtime.NumGoroutine")=false):∀ d,RCok P G (evF2 P G T ow gc ov fuel d)
 |0=>fun f xs H x H' h=>by cases h
 |d+1=>fun f args H x H' h=>by
  unfold evF2 at h
  split at h
  ·rename_i r hr
   cases h
   exact ho _ _ _ _ _ hr
  split at h
  ·rename_i fn hf
   split at h
   ·rename_i cd hb
    cases hl:Nat.ble args.length fn.ntmps with
    |false=>rw[hl] at h;cases h
    |true=>
     rw[hl,cond_true] at h
     refine ACall.of_awp hT hf hb (hn f fn hf) rfl (Nat.le_of_ble_eq_true hl) rfl fun C h1 h2 h3=>?_
     have hfin:∀ (xs:List SV) (H1:List Blk),(bif gc f then gcR H.length (resSV xs) H1 else (resSV xs,H1))=(x,H')→Fin C H1 (resSV xs) (fun r H2=>H2=H'∧r=x):=by
      intro xs H1 hx
      cases hg:gc f with
      |true=>
       rw[hg,cond_true] at hx
       have:=gcR_fin (C:=C) (H':=H1) (x:=resSV xs) (n0:=H.length) (by rw[h1])
       rw[hx] at this
       exact this
      |false=>
       rw[hg,cond_false] at hx
       cases hx
       exact Fin.same ⟨rfl,rfl⟩
     split at h
     ·rename_i e env1 H1 hr
      split at h
      ·obtain⟨xs,hx,h⟩:=ob_eq h
       refine AWP.mono (evC2_ok hG (by rw[h1];rw[h1] at h3;exact h3) hT hm (evF2_ok hG ho hT hm hn d) _ _ (Nat.le_refl _) _ _ _ _ _ _ hr) ?_
       rintro e2 ⟨envx,Hx⟩ ⟨rfl,rfl,he⟩
       exact⟨xs,(resL_look he).trans hx,hfin _ _ (Option.some.inj h)⟩
      ·obtain⟨xs,hx,h⟩:=ob_eq h
       refine AWP.mono (evC2_ok hG (by rw[h1];rw[h1] at h3;exact h3) hT hm (evF2_ok hG ho hT hm hn d) _ _ (Nat.le_refl _) _ _ _ _ _ _ hr) ?_
       rintro e2 ⟨envx,Hx⟩ ⟨rfl,rfl,he⟩
       exact⟨xs,(resL_look he).trans hx,hfin _ _ (Option.some.inj h)⟩
      ·cases h
     ·cases h
   ·cases h
  ·cases h
end
theorem cloneS_list (G:Gl) (hG:GClosed G) (xs:List SV) (hu0:∀ n,SV.underL n xs=true) (H:List Blk) (hl:xs.length<4294967296):ACall Tryz.prog G 42 [.list 1 xs] H (fun r H'=>H'=H++[.cells 0 1 xs]∧r= .sl H.length 0 0 xs.length):=by
 have hu:SV.underL H.length (List.drop 0 xs)=true:=hu0 _
 refine ACall.of_go TB [2,5] tabOK _ Tryz.func42 rfl (by decide) Tryz.ntmps42 (by simp) rfl (by simp only[initEnv,Nat.reduceAdd];rfl) fun C R' hR hC hcl hB=>?_;have X:=noX;have hC':=congrArg List.length hC
 (refine runO ?_;with_reducible repeat' first|exact trivial|(apply Fork.mk<;>intro hb)|apply Two.mk)
 ·obtain rfl:xs=[]:=List.length_eq_zero_iff.1 hb
  exact finK [(H.length+1,0)] (.sl H.length 0 0 0) [.cells 0 1 []] hR hC' hcl ⟨rfl,rfl⟩
 ·exact finK [(H.length+1,0)] (.sl H.length 0 0 xs.length) [.cells 0 1 xs] hR hC' hcl ⟨rfl,rfl⟩
theorem cloneE_list (G:Gl) (hG:GClosed G) (xs:List SV) (hu0:∀ n,SV.underL n xs=true) (H:List Blk) (hl:xs.length<4294967296):ACall Tryz.prog G 94 [.list 8 xs] H (fun r H'=>H'=H++[.cells 0 8 xs]∧r= .sl H.length 0 0 xs.length):=by
 have hu:SV.underL H.length (List.drop 0 xs)=true:=hu0 _
 refine ACall.of_go TB [2,5] tabOK _ Tryz.func94 rfl (by decide) Tryz.ntmps94 (by simp) rfl (by simp only[initEnv,Nat.reduceAdd];rfl) fun C R' hR hC hcl hB=>?_;have X:=noX;have hC':=congrArg List.length hC
 (refine runO ?_;with_reducible repeat' first|exact trivial|(apply Fork.mk<;>intro hb)|apply Two.mk)
 ·obtain rfl:xs=[]:=List.length_eq_zero_iff.1 hb
  exact finK [(H.length+1,0)] (.sl H.length 0 0 0) [.cells 0 8 []] hR hC' hcl ⟨rfl,rfl⟩
 ·exact finK [(H.length+1,0)] (.sl H.length 0 0 xs.length) [.cells 0 8 xs] hR hC' hcl ⟨rfl,rfl⟩
def nilVL (f:SV→SV→Bool):List SV→List SV→Bool
 |[],[]=>true
 |x::xs,y::ys=>f x y&&nilVL f xs ys
 |_,_=>false
def nilV:Nat→SV→SV→Bool
 |0,_,_=>false
 |d+1,x,y=>match x,y with
  | .agg a,.agg b=>nilVL (nilV d) a b
  | .list s a,.list t b=>Nat.beq s t&&nilVL (nilV d) a b
  | .nil,.list _ []=>true
  |x,y=>SV.same x y
theorem nilVL_ok {f:SV→SV→Bool} (hf:∀ x y,f x y=true→∀ c v,Rep c x v→Rep c y v):∀ {xs ys:List SV},nilVL f xs ys=true→xs.length=ys.length∧∀ c vs,RepL c xs vs→RepL c ys vs
 |[],[],_=>⟨rfl,fun _ _ h=>h⟩
 |x::xs,y::ys,h=>by
  simp only[nilVL,Bool.and_eq_true] at h
  obtain⟨h1,h2⟩:=nilVL_ok hf h.2
  refine⟨by simp[h1],fun c vs hv=>?_⟩
  obtain⟨u,us,a1,a2,rfl⟩:=RepL.cons_iff.1 hv
  exact RepL.mk_cons (hf _ _ h.1 _ _ a1) (h2 _ _ a2)
 |[],_::_,h=>by cases h
 |_::_,[],h=>by cases h
theorem nilV_ok:∀ (d:Nat) (x y:SV),nilV d x y=true→∀ c v,Rep c x v→Rep c y v
 |0,_,_,h=>by cases h
 |d+1,x,y,h=>by
  unfold nilV at h
  split at h
  ·rename_i a b
   obtain⟨_,h2⟩:=nilVL_ok (nilV_ok d) h
   intro c v hv
   simp only[Rep] at hv ⊢
   obtain⟨vs,e1,e2,e3⟩:=hv
   exact⟨vs,h2 _ _ e1,e2,e3⟩
  ·rename_i s a t b
   simp only[Bool.and_eq_true] at h
   obtain⟨h1,h2⟩:=nilVL_ok (nilV_ok d) h.2
   have hs:=Nat.eq_of_beq_eq_true h.1
   subst hs
   intro c v hv
   simp only[Rep] at hv ⊢
   obtain⟨p,cap,e1,e2,e3,e4⟩:=hv
   refine⟨p,cap,by rw[e1,h1],by omega,e3,?_⟩
   rcases e4 with e4|⟨b',o,vs,q1,q2,q3⟩
   ·left
    subst e4
    exact List.length_eq_zero_iff.1 (by rw[← h1];rfl)
   ·exact .inr ⟨b',o,vs,q1,h2 _ _ q2,q3⟩
  ·intro c v hv
   simp only[Rep] at hv ⊢
   exact⟨none,0,hv,Nat.le_refl _,Nat.zero_le _,.inl trivial⟩
  ·rw[SV.same_both.1 _ _ h]
   exact fun _ _ h=>h
theorem ACall.nilA {P:Program} {G:Gl} {f:FuncId} {x y:SV} {H:List Blk} {R:SV→List Blk→Prop} (h:ACall P G f [y] H R) {d:Nat} (hn:nilV d x y=true):ACall P G f [x] H R:=
 ⟨h.1,fun c vs h1 h2 h3 h4=>h.2 c vs h1 h2 h3 (by
  obtain⟨u,us,a1,a2,rfl⟩:=RepL.cons_iff.1 h4
  exact RepL.mk_cons (nilV_ok d _ _ hn _ _ a1) a2)⟩
def nF:Str:=[102]
def boxN:Str:=[80,114,105,109,46,66,111,120]
def varE (t:Str):Ex:= .mk 1 t 0 0 [] [] [] []
def EA:Ex:= .mk 4 [] 0 0 [] [varE nF,varE [115]] [] []
def EM:Ex:= .mk 3 [] 0 0 [[115]] [.mk 4 [] 0 0 [] [varE nF,.mk 7 boxN 0 0 [] [EA] [] [],.mk 2 [] 3 0 [] [] [] []] [] []] [] []
def EF:Ex:= .mk 3 [] 0 0 [[97]] [varE [97]] [] []
def P0:Pg:=⟨kno4,[.mk mainN EM,.mk nF EF]⟩
def t1N:Str:=[116,35,49]
def t2N:Str:=[116,35,50]
def atomE (s:Str):Sg:= .mk 1 [] 0 [⟨s,0⟩] [] [] []
def Q0 (f1 f2 f3:List Str):List Sb:=[.mk mainN 1 f1 [[115]] false [] [] [.mk 6 [] 0 [] [.mk 2 nF 0 [⟨t1N,0⟩,⟨[],3⟩] [] [] []] [.mk t2N 2 f3 [] true [] [] [.mk 2 nF 0 [⟨[115],0⟩] [] [] []],.mk t1N 3 [] [] false boxN [⟨t2N,0⟩] []] []],.mk nF 1 f2 [[97]] false [] [] [atomE [97]]]
def ovC (f:FuncId) (sz:Nat) (xs:List SV) (H:List Blk):Option (SV×List Blk):=
 bif ((Nat.beq f 42&&Nat.beq sz 1)||(Nat.beq f 94&&Nat.beq sz 8)||(Nat.beq f 20&&Nat.beq sz 4))&&SV.underL 0 xs&&Nat.blt xs.length 1000
 then some (.sl H.length 0 0 xs.length,H++[.cells 0 sz xs]) else none
def ovA:RC:=fun f args H=>match args with
 |[.list sz xs]=>ovC f sz xs H
 |[x]=>bif Nat.beq f 7 then (bif nilV 30 x P0.sv then some (.tuple [spSv kno4 (Q0 [] [] [[115]]),.int .i64 0],H) else none) else none
 |_=>none
def owA (f:FuncId):List Nat:=bif Nat.beq f 99 then [32] else []
def gcA (f:FuncId):Bool:=false
def isT:Option (SV×List Blk)→Bool
 |some (.bool true,_)=>true
 |_=>false
section
set_option maxRecDepth 100000
theorem awake_run (l:Option Cx):isT (evF2 Tryz.prog ⟨[],l⟩ TB owA gcA ovA 5000 40 6 [] [])=true:=by kernel_rfl
end
section
set_option maxRecDepth 100000
theorem names_ok:∀ (f:FuncId) (fn:Func),Tryz.prog.funcs[f]? =some fn→(fn.name== "runtime.NumGoroutine")=false:=by
 intro f fn h
 have hall:(Tryz.prog.funcs.toList.all fun fn=>!(fn.name== "runtime.NumGoroutine"))=true:=by decide+kernel
 have hm:fn∈Tryz.prog.funcs.toList:=by
  rw[← Array.getElem?_toList] at h
  exact List.mem_of_getElem? h
 have:=List.all_eq_true.1 hall fn hm
 simpa using this
theorem sortS_at {l s:List Str} (h1:s.Perm l) (h2:s.Pairwise (fun x y=>decide (x≤y)=true)):sortS l=s:=by
 rw[← sortS_eq h1,sortS]
 exact List.mergeSort_of_pairwise h2
def sN0:List Str:=[mainN,[97],[102],[115]]
theorem bad0:badNames P0.binds=false:=by
 have h:sortS (bindersP P0.binds)=sN0:=sortS_at (by decide+kernel) (by decide+kernel)
 unfold badNames
 rw[h]
 decide+kernel
theorem lintP0:lintS P0=0:=by
 unfold lintS
 rw[bad0]
 decide+kernel
theorem frM:freeS EM=[nF]:=sortS_at (by decide+kernel) (by decide+kernel)
theorem frF:freeS EF=[]:=sortS_at (by decide+kernel) (by decide+kernel)
theorem frA:freeS EA=[nF,[115]]:=sortS_at (by decide+kernel) (by decide+kernel)
theorem tpM:topF (topS P0.binds) EM=[]:=by unfold topF;rw[frM];decide+kernel
theorem tpF:topF (topS P0.binds) EF=[]:=by unfold topF;rw[frF];decide+kernel
theorem tpA:topF (topS P0.binds) EA=[[115]]:=by unfold topF;rw[frA];decide+kernel
theorem ofP1:ofS P0=Q0 (topF (topS P0.binds) EM) (topF (topS P0.binds) EF) (topF (topS P0.binds) EA):=by kernel_rfl
theorem ofP0:ofS P0=Q0 [] [] [[115]]:=by rw[ofP1,tpM,tpF,tpA]
theorem ovA_ok (G:Gl) (hG:GClosed G) (C0:Cx) (hb:G.base=some C0) (hL:LibAt C0) (h0:C0.H=[]):RCok Tryz.prog G ovA:=by
 have hB:Based G 0:=fun C1 h1=>by rw[hb] at h1;cases h1;rw[h0];exact Nat.le_refl _
 intro f xs H x H' h
 unfold ovA at h
 split at h
 ·rename_i sz xs
  unfold ovC at h
  generalize hc:((Nat.beq f 42&&Nat.beq sz 1)||(Nat.beq f 94&&Nat.beq sz 8)||(Nat.beq f 20&&Nat.beq sz 4))=cl at h
  cases hc2:(cl&&SV.underL 0 xs&&Nat.blt xs.length 1000) with
  |false=>rw[hc2] at h;cases h
  |true=>
   rw[hc2,cond_true] at h
   cases h
   simp only[Bool.and_eq_true] at hc2
   obtain⟨⟨h1,h2⟩,h3⟩:=hc2
   subst h1
   have h3:xs.length<1000:=by simpa [Nat.blt_eq] using h3
   have hu:∀ n,SV.underL n xs=true:=fun n=>(SV.below_mono_both (Nat.zero_le n)).2 _ h2
   simp only[Bool.or_eq_true,Bool.and_eq_true] at hc
   rcases hc with (hc|hc)|hc<;>(obtain⟨a1,a2⟩:=hc;have a1:=Nat.eq_of_beq_eq_true a1;have a2:=Nat.eq_of_beq_eq_true a2;subst a1;subst a2)
   ·exact cloneS_list G hG xs hu H (by omega)
   ·exact cloneE_list G hG xs hu H (by omega)
   ·exact cloneC_list G hG xs hu H (by omega)
 ·rename_i y _
  cases hf:Nat.beq f 7 with
  |true=>
   rw[hf,cond_true] at h
   have hf:=Nat.eq_of_beq_eq_true hf
   subst hf
   cases hn:nilV 30 y P0.sv with
   |false=>rw[hn] at h;cases h
   |true=>
    rw[hn,cond_true] at h
    cases h
    have:=Of_ok G hG hB C0 hb hL P0 H (by decide+kernel) (by decide+kernel) (by decide+kernel) lintP0
    rw[ofP0] at this
    exact this.nilA hn
  |false=>rw[hf] at h;cases h
 ·cases h
theorem awake_ok (G:Gl) (hG:GClosed G) (C0:Cx) (hb:G.base=some C0) (hL:LibAt C0) (h0:C0.H=[]) (H:List Blk):ACall Tryz.prog G 6 [] H (fun r H'=>H'=H∧r= .bool true):=by
 have hr:=awake_run (some C0)
 have hG0:GClosed ⟨[],some C0⟩:=fun p hp=>by cases hp
 have hov:=ovA_ok ⟨[],some C0⟩ hG0 C0 rfl hL h0
 have hev:=evF2_ok (P:=Tryz.prog) (G:=⟨[],some C0⟩) (T:=TB) (ow:=owA) (gc:=gcA) (ov:=ovA) (fuel:=5000) hG0 hov tabOK mixOK names_ok 40
 generalize hE:evF2 Tryz.prog ⟨[],some C0⟩ TB owA gcA ovA 5000 40 6 [] []=E at hr
 cases E with
 |none=>cases hr
 |some r=>
  obtain⟨v,H1⟩:=r
  cases v with
  |bool b=>cases b with
   |false=>cases hr
   |true=>exact ACall.lift (G0:=⟨[],some C0⟩) C0 rfl hb h0 hG0 (fun p hp=>by cases hp) ((hev _ _ _ _ _ hE).mono fun r H2 h=>h.2) H
  |_=>cases hr
end
theorem stgLooked_ok (G:Gl) (hG:GClosed G) (hB0:Based G 0) (C0:Cx) (hb0:G.base=some C0) (hl0:LibAt C0) (h00:C0.H=[]) (p:Pg) (H:List Blk) (hw:bdsWt p.binds<67108864) (hcn:p.cons.length<1073741824) (hns:∀ s∈bindersP p.binds,s.length<4294967296):
 ACall Tryz.prog G 4 [p.sv] H (fun r H'=>H'=H∧r= .bool true):=by
 have cA:=fun H2=>awake_ok G hG C0 hb0 hl0 h00 H2
 have cL:=fun H2=>lint_ok G hG p H2 (by omega) (by omega)
 have cO:=fun h0 H2=>Of_ok G hG hB0 C0 hb0 hl0 p H2 hw hcn hns h0
 have hgd:=ofS_gd p
 have hsz:=ofS_sz p
 have cS:=fun H2=>Small_ok G hG p.cons p.binds H2 (by omega) (by omega) hns
 generalize ofS p=L at*
 generalize lintS p=S at*
 obtain⟨cons,binds⟩:=p
 simp only at*
 have hle:=bdsWt_len binds
 rw[show(Pg.mk cons binds).sv= .agg [.list 4 (cnCells cons),.list 9 (bdCells binds)] from rfl] at*
 unfold spSv at cO
 have under_ints:=fun n=>cnCells_under n cons
 have under_bools:=sbCells_under
 have d2:=ndK H.length [0,1] (by decide)
 refine ACall.of_go TB [] tabOK _ Tryz.func4 rfl (by decide) Tryz.ntmps4 (by simp) rfl (by simp only[initEnv,Nat.reduceAdd];rfl) fun C R' hR hC hcl hB=>?_;have X:=noX;have hC':=congrArg List.length hC
 (refine run ?_;with_reducible repeat' first|exact trivial|(apply Fork.mk<;>intro hb)|apply Two.mk)
 refine callS (cS _) ?_
 rintro r H' ⟨rfl,b,rfl⟩
 have c1:=cA
 have c2:=cL
 cases b
 ·(refine run ?_;with_reducible repeat' first|exact trivial|(apply Fork.mk<;>intro hb)|apply Two.mk)
  exact finS (n0:=H.length) hR hC' hcl (.same _ rfl) ⟨rfl,rfl⟩
 by_cases h0:S=0
 rotate_left
 ·have X:=And.intro noX h0
  (refine run ?_;with_reducible repeat' first|exact trivial|(apply Fork.mk<;>intro hb)|apply Two.mk)
  exact finS (n0:=H.length) hR hC' hcl (.same _ rfl) ⟨rfl,rfl⟩
 have cO:=cO h0
 obtain⟨hg,hge0⟩:=hgd h0
 have hsz:=hsz h0
 have hll:=sbSz_len L
 have X:=And.intro noX h0
 (refine run ?_;with_reducible repeat' first|exact trivial|(apply Fork.mk<;>intro hb)|apply Two.mk)
 refine callS (cO _) ?_
 rintro r H' ⟨rfl,rfl⟩
 clear cO cL c2
 have hbl:=sbCells_len L
 have X:=And.intro noX hbl
 (refine run ?_;with_reducible repeat' first|exact trivial|(apply Fork.mk<;>intro hb)|apply Two.mk)
 refine go_loop (fun i:Nat=>[(1,.ptr H.length 0 0 0),(3,.ptr (H.length+1) 0 0 0),(5,.int .i64 (i:Int))]) (fun _=>H++[.cells 0 2 [.agg [.list 4 (cnCells cons),.list 9 (bdCells binds)]],.cells 0 2 [.agg [.list 4 (cnCells cons),.list 8 (sbCells L)]]]) (fun i=>L.length - i) (fun i=>i≤L.length) 0 (Nat.zero_le _) ?_ ?_
 ·exact wkS (n0:=H.length) [(H.length,0),(H.length+1,0)] hG hB hC' hcl (hd:=d2)
 rintro K i hi hK
 rcases Nat.lt_or_ge i L.length with hlt|hge
 ·have hgb:=gdB_mem hg (List.getElem_mem hlt)
  have hszm:=sbSz_mem (List.getElem_mem hlt)
  have hszb:=L[i].sz_body
  have hcg:(sbCells L)[i]? =some L[i].sv:=by rw[sbCells_map];simp[hlt]
  generalize L[i]=b at*
  obtain⟨bn,bk,bf,bp,bu,bc,ba,bb⟩:=b
  simp only[Sb.body] at hgb hszb
  rw[show(Sb.mk bn bk bf bp bu bc ba bb).sv= .agg [.str bn,.int .i64 bk,.list 1 (bf.map .str),.list 1 (bp.map .str),.bool bu,.str bc,.list 2 (atCells ba),.list 7 (sgCells bb)] from rfl] at hcg
  have hbbl:=sgSz_len bb
  have hsl:=sgCells_len bb
  have X:=And.intro noX (And.intro hcg hbl)
  (refine run ?_;with_reducible repeat' first|exact trivial|(apply Fork.mk<;>intro hb)|apply Two.mk)
  refine go_loop (fun j:Nat=>[(1,.ptr H.length 0 0 0),(3,.ptr (H.length+1) 0 0 0),(5,.int .i64 (i:Int)),(6,.int .i64 (j:Int))]) (fun _=>H++[.cells 0 2 [.agg [.list 4 (cnCells cons),.list 9 (bdCells binds)]],.cells 0 2 [.agg [.list 4 (cnCells cons),.list 8 (sbCells L)]]]) (fun j=>bb.length - j) (fun j=>j≤bb.length) 0 (Nat.zero_le _) ?_ ?_
  ·exact wkS (n0:=H.length) [(H.length,0),(H.length+1,0)] hG hB hC' hcl (hd:=d2)
  rintro K2 j hj hK2
  rcases Nat.lt_or_ge j bb.length with hltj|hgej
  ·have hm2:=List.getElem_mem hltj
   have hsz2:=sgSz_mem hm2
   have hcj:=sgCells_at hltj
   have hcall:=fun M=>plain16_ok G hG bb[j].sz bb[j] [] [] (H++(.cells 0 2 [.agg [.list 4 (cnCells cons),.list 9 (bdCells binds)]]:: .cells 0 2 [.agg [.list 4 (cnCells cons),.list 8 (sbCells L)]]:: .map none (esO [])::M)) (H.length+2) (Nat.le_refl _) (by omega) (gdS_mem hgb hm2) (fun t ht=>ht) (by rw[get_app];rfl)
   rw[show bb[j].sv= .agg bb[j].cells from rfl,show esO []=[] from rfl] at hcall
   have hx7:=bb[j].cells_len
   have hx7t:=bb[j].cells_take
   have hx7d:bb[j].cells.drop 7=[]:=List.drop_eq_nil_of_le (by omega)
   generalize bb[j].cells=xc at*
   have X:=And.intro noX (And.intro hcg (And.intro hbl (And.intro hsl (And.intro hcj (And.intro hx7 (And.intro hx7t hx7d))))))
   (refine run ?_;with_reducible repeat' first|exact trivial|(apply Fork.mk<;>intro hb)|apply Two.mk)
   refine callS (hcall _) ?_
   rintro r H' ⟨S3,h3,rfl,rfl⟩
   rw[set_app]
   simp only[List.set_cons_succ,List.set_cons_zero]
   (refine run ?_;with_reducible repeat' first|exact trivial|(apply Fork.mk<;>intro hb)|apply Two.mk)
   refine hK2 _ _ (j+1) (by omega) (by omega) ?_
   exact wkS (n0:=H.length) [(H.length,0),(H.length+1,0)] hG hB hC' hcl (hd:=d2)
  clear hK2
  obtain rfl:j=bb.length:=by omega
  have X:=And.intro noX (And.intro hcg (And.intro hbl (And.intro hsl (Int.lt_irrefl (bb.length:Int)))))
  (refine run ?_;with_reducible repeat' first|exact trivial|(apply Fork.mk<;>intro hb)|apply Two.mk)
  refine hK _ _ (i+1) (by omega) (by omega) ?_
  exact wkS (n0:=H.length) [(H.length,0),(H.length+1,0)] hG hB hC' hcl (hd:=d2)
 clear hK
 obtain rfl:i=L.length:=by omega
 have hge1:(binds.length:Int)≤(L.length:Int):=by omega
 have X:=And.intro noX (And.intro (Int.lt_irrefl (L.length:Int)) (And.intro hbl hge1))
 (refine run ?_;with_reducible repeat' first|exact trivial|(apply Fork.mk<;>intro hb)|apply Two.mk)
 exact finS (n0:=H.length) hR hC' hcl (.same _ rfl) ⟨rfl,rfl⟩
end Go.Proofs.YtedejleokilohaaGreatDoor
section
open Go
namespace Go.Proofs.YtedejleokilohaaGreatDoor.stgLooked
open Go Go.ChangeShapes Go.WideShapes Go.RowKit
set_option maxRecDepth 100000 in
theorem contract (H:Type) (enc:TypeId×Value→H) (W:World) (base:Nat) (args:Array Value) (ds gs:List (DataW H)) (before:List MemPlace)
 (hval:∀ (j:Nat) t v,Tryz.f4.params[j]? =some t→args[j]? =some v→Value.okWide Tryz.prog W .any base t v)
 (hW:DataW.Whole enc Tryz.prog Tryz.f4.params.toList Rows.stgLookedSpec.vars false W args.toList ds gs before) (hL:laidMetH Tryz.prog Rows.stgLookedUptoRow.laid W) (hk:Rows.uptoSmall H (ds++gs)=true):
 Calls Tryz.prog 4 args W fun e W'=>∃ v,e= .returned v∧Rows.stgLookedSpec.post enc Tryz.prog Tryz.f4 false true false false W args v W':=by
 have hW':=hW
 obtain⟨p,q,hA0,hV,rfl,hfz,hnd⟩:=hW
 have hA:DataW.TrodAll enc Tryz.prog W 0 (fun _=>true) true Tryz.f4.params.toList args.toList ds p:=hA0
 rw[Tryz.params4] at hA hval
 obtain⟨v0,vs0,d0,ds0,p0,q0,hargs,rfl,rfl,h0,r0⟩:=trodAll_cons hA
 obtain⟨rfl,rfl,rfl⟩:=trodAll_nil r0
 obtain rfl:args= #[v0]:=by cases args;simp_all
 obtain⟨rfl,rfl⟩:=trodVars_none hV
 obtain⟨cs0,rfl,_⟩:=okWide_struct Tryz.underlying25 (hval 0 25 v0 (by simp) (by simp))
 obtain⟨fuel0,hf0⟩:=h0
 obtain⟨e0,hg0,_,hw0⟩:=read_pg fuel0 _ _ hf0
 have hbulk:e0.wt≤1048576:=by
  simp only[Rows.uptoSmall,decide_eq_true_eq,List.append_nil,Rows.uptoBulkAll] at hk
  simp only at hw0
  omega
 refine(law_callsG (args:=[e0.sv]) (vs:=[.agg cs0]) (stgLooked_ok (GB W) (gclosedB W) (based0 W) (rdC W) rfl (libAt hL) rfl e0 [] (by unfold Pg.wt at hbulk;omega) (by have:=sum_len (f:=Cn.wt) (fun x=>by unfold Cn.wt;omega) e0.cons;unfold Pg.wt at hbulk;omega) (fun s hs=>by have:=bindersP_wt hs;unfold Pg.wt at hbulk;omega)) (gokB W) ?_ (fun W'=>law_post laid rfl hW' ?_ rfl (by kernel_rfl) rfl rfl rfl)).mono ?_
 ·refine RepL.mk_cons ?_ (RepL.mk_nil)
  ·simp only[Pg.sv,Rep];exact⟨cs0.toList,hg0.1,hg0.2,rfl⟩
 ·intro t ht
  rw[Tryz.params4] at ht
  simp only[List.mem_cons,List.not_mem_nil,or_false] at ht
  rcases ht with rfl<;>exact⟨by kernel_rfl,of_decide_eq_true (by kernel_rfl)⟩
 ·rintro _ W' ⟨v,rfl,rfl,hp⟩
  exact⟨_,rfl,hp⟩
theorem laid_met (os:Os):laidMet Tryz.prog Rows.stgLookedUptoRow.laid ((laidWorld os).forCall (fun _ _=>0) ⟨#[],#[Value.agg #[.slice none 0 0,.slice none 0 0]],[]⟩).memory:=
 laidMet_of_run' 8 (by kernel_rfl) (by kernel_rfl)
theorem reads (os:Os) {H:Type} (enc:TypeId×Value→H):∃ places,DataW.whole enc Tryz.prog ((laidWorld os).forCall (fun _ _=>0) ⟨#[],#[Value.agg #[.slice none 0 0,.slice none 0 0]],[]⟩).memory Tryz.f4.params.toList Rows.stgLookedSpec.vars false (#[Value.agg #[.slice none 0 0,.slice none 0 0]]:Array Value).toList 8=some ([.agg [.nil,.nil]],[],places):=
 ⟨[],by kernel_rfl⟩
set_option maxRecDepth 100000 in
theorem lifted (os:Os) (started:os.Started) (H:Type) (enc:TypeId×Value→H) (F:Stop.Interp):
 ReturnsInHanded {} Tryz.checked os 4 .any ((Rows.OpenSpec.upto Rows.stgLookedSpec).preRow enc Tryz.prog Tryz.f4 Rows.stgLookedUptoRow.domain false Rows.stgLookedUptoRow.laid) (((Rows.OpenSpec.upto Rows.stgLookedSpec).at F).post enc Tryz.prog Tryz.f4 false true false false):=by
 obtain⟨places,hx⟩:=reads os enc
 refine returnsInHanded_of_row (C:=Tryz.checked) (s:=Rows.OpenSpec.upto Rows.stgLookedSpec) own started (by kernel_rfl) Tryz.func4
  (witness_row_at (enc:=enc) (C:=Tryz.checked) false (laidWorld os) #[Value.agg #[.slice none 0 0,.slice none 0 0]] rfl (by kernel_rfl) (by kernel_rfl) (by kernel_rfl)
   (OpenSpec.preRow_of_cond 8 hx (by kernel_rfl) (fun k hk=>by cases hk;kernel_rfl) (by kernel_rfl) (laid_met os))) ?_
 intro W base args ds gs before hval hW _ hcond _ hL _ _
 exact contract H enc W base args ds gs before hval hW hL (hcond _ rfl)
theorem said:Rows.StgLookedUptoSaid:=
 OpenClaim.holds_of_cond 4 Tryz.f4 rfl rfl rfl rfl rfl rfl rfl ⟨rfl,rfl,rfl,rfl,rfl⟩ rfl rfl rfl rfl rfl (by kernel_rfl) Tryz.func4 (by kernel_rfl)
  (of_decide_eq_true (by kernel_rfl)) (by unfold Func.isWrapper;first|(rw[if_pos (by decide+kernel)];kernel_rfl)|(rw[if_neg (by decide+kernel)];exact⟨rfl,rfl⟩))
  (fun os started H enc _ F=>by rw[OpenClaim.pre_eq_preRow];exact lifted os started H enc F)
theorem plain (f:FuncId) (fn:Func) (hf:Tryz.pinned.checked.prog.funcNamed "teasel/teasellaw16.StgLooked" =some f) (hfn:Tryz.pinned.checked.prog.funcs[f]? =some fn):
 true=Tryz.pinned.checked.prog.looks []∧∀ (j:Nat) t,fn.params[j]? =some t→Tryz.pinned.checked.prog.wantsStandIn t=false:=by
 obtain rfl:f=4:=Option.some.inj ((show Tryz.prog.funcNamed "teasel/teasellaw16.StgLooked" =some 4 by kernel_rfl).symm.trans hf)|>.symm
 obtain rfl:fn=Tryz.f4:=(Option.some.inj (Tryz.func4.symm.trans hfn)).symm
 refine⟨by kernel_rfl,fun j t ht=>?_⟩
 rw[Tryz.params4] at ht
 have hm:=Array.mem_of_getElem? ht
 have hm2:t=25:=by
  have h3:t=25:=by simpa using hm
  rcases h3 with rfl<;>simp
 subst hm2
 ·exact(show Tryz.prog.wantsStandIn 25=false by kernel_rfl)
theorem proved:Rows.StgLookedUptoCardSaid:=
 Claim7.holds_tied_plain_at .later [] _ _ _ _ said (fun _ h=>by cases h) (by kernel_rfl) (fun _ h=>by cases h) stgLookedUpto_row_tie rfl ⟨rfl,rfl⟩ (by kernel_rfl) rfl plain (by kernel_rfl)
end Go.Proofs.YtedejleokilohaaGreatDoor.stgLooked
end
namespace Go.Proofs.YtedejleokilohaaGreatDoor
open Go
end Go.Proofs.YtedejleokilohaaGreatDoor
