/- -instroots -errrows -fmtstops -cutvars -cutvarstests -tables -cutpinned -cutmore -reporoot . Names and spaces are cut short by program. -/
import Derived.Test.YtedejleokilohaaGreatDoorMl
set_option linter.unusedSimpArgs false
set_option linter.unusedVariables false
set_option maxRecDepth 10000
set_option maxHeartbeats 4000000
namespace Go.Proofs.YtedejleokilohaaGreatDoor
open Go
section
def C7 (all:List Oper) (p:Env×List az):List (Env×List az)→Bool
 |[]=>false
 |q::r=>bif sB p.1 q.1 (dstsOf all)&&oM p.2 q.2 then true else C7 all p r
def nu (all:List Oper):List (Env×List az)→List (Env×List az)→List (Env×List az)
 |[],l2=>l2
 |p::r,l2=>bif C7 all p l2 then nu all r l2 else nu all r (p::l2)
def uR (all:List Oper) (f:Nat→Option (List (Env×List az))):List Nat→Option (List (Env×List az))
 |[]=>some []
 |j::js=>match f j with
  |some l1=>(match uR all f js with
   |some l2=>some (nu all l1 l2)
   |none=>none)
  |none=>none
theorem zU {all:List Oper} {p:Env×List az}:∀ {l:List (Env×List az)},C7 all p l=true→∃ q∈l,q.2=p.2∧∀ t∈dstsOf all,look p.1 t=look q.1 t
 |[],h=>by cases h
 |q::r,h=>by
  unfold C7 at h
  cases hb:(sB p.1 q.1 (dstsOf all)&&oM p.2 q.2) with
  |true=>
   rw[Bool.and_eq_true] at hb
   exact⟨q,List.mem_cons_self ..,(sA hb.2).symm,qe hb.1⟩
  |false=>
   rw[hb,cond_false] at h
   obtain⟨q',h1,h2⟩:=zU h
   exact⟨q',List.mem_cons_of_mem _ h1,h2⟩
theorem pz {all:List Oper}:∀ (l1 l2:List (Env×List az)),(∀ p∈l1,∃ q∈nu all l1 l2,q.2=p.2∧∀ t∈dstsOf all,look p.1 t=look q.1 t)∧(∀ p∈l2,p∈nu all l1 l2)∧(∀ q∈nu all l1 l2,q∈l1∨q∈l2)
 |[],l2=>⟨fun p hp=>(by cases hp),fun p hp=>hp,fun q hq=> .inr hq⟩
 |p::r,l2=>by
  unfold nu
  cases hb:C7 all p l2 with
  |true=>
   rw[cond_true]
   obtain⟨i1,i2,i3⟩:=pz (all:=all) r l2
   refine⟨fun p' hp'=>?_,i2,fun q hq=>?_⟩
   ·rcases List.mem_cons.1 hp' with rfl|hp'
    ·obtain⟨q,h1,h2⟩:=zU hb
     exact⟨q,i2 q h1,h2⟩
    ·exact i1 p' hp'
   ·rcases i3 q hq with h|h
    ·exact .inl (List.mem_cons_of_mem _ h)
    ·exact .inr h
  |false=>
   rw[cond_false]
   obtain⟨i1,i2,i3⟩:=pz (all:=all) r (p::l2)
   refine⟨fun p' hp'=>?_,fun q hq=>i2 q (List.mem_cons_of_mem _ hq),fun q hq=>?_⟩
   ·rcases List.mem_cons.1 hp' with rfl|hp'
    ·exact⟨_,i2 _ (List.mem_cons_self ..),rfl,fun _ _=>rfl⟩
    ·exact i1 p' hp'
   ·rcases i3 q hq with h|h
    ·exact .inl (List.mem_cons_of_mem _ h)
    ·rcases List.mem_cons.1 h with rfl|h
     ·exact .inl (List.mem_cons_self ..)
     ·exact .inr h
theorem rm {all:List Oper} {f:Nat→Option (List (Env×List az))}:∀ {l:List Nat} {L:List (Env×List az)},uR all f l=some L→(∀ j∈l,∃ lj,f j=some lj∧∀ p∈lj,∃ q∈L,q.2=p.2∧∀ t∈dstsOf all,look p.1 t=look q.1 t)∧∀ q∈L,∃ j∈l,∃ lj,f j=some lj∧q∈lj
 |[],L,h=>by
  cases h
  exact⟨fun j hj=>(by cases hj),fun q hq=>(by cases hq)⟩
 |j::js,L,h=>by
  unfold uR at h
  split at h
  ·rename_i l1 hf
   split at h
   ·rename_i l2 hr
    cases h
    obtain⟨i1,i2⟩:=rm hr
    obtain⟨m1,m2,m3⟩:=pz (all:=all) l1 l2
    refine⟨fun j' hj'=>?_,fun q hq=>?_⟩
    ·rcases List.mem_cons.1 hj' with rfl|hj'
     ·exact⟨l1,hf,m1⟩
     ·obtain⟨lj,e1,e2⟩:=i1 j' hj'
      refine⟨lj,e1,fun p hp=>?_⟩
      obtain⟨q,h1,h2⟩:=e2 p hp
      exact⟨q,m2 q h1,h2⟩
    ·rcases m3 q hq with h|h
     ·exact⟨j,List.mem_cons_self ..,l1,hf,h⟩
     ·obtain⟨j',h1,h2⟩:=i2 q h
      exact⟨j',List.mem_cons_of_mem _ h1,h2⟩
   ·cases h
  ·cases h
section
variable (call:RC) (G:Gl) (T:aE) (own:List Nat) (nt:Nat)
def nQ (all:List Oper):Nat→Nat→List Nat→Env→List az→Option (List (Env×List az))
 |0,_,_,_,_=>none
 |n+1,m,ex,env,H=>
  bif Nat.ble all.length m then some [(env,H)] else
  bif fq m ex then nQ all n (m+1) ex env H else
  match xV own all m ex with
  |some o=>(match qg G T own all o env H with
   |some v=>nQ all n (m+1) ex (cX o.dst v env) H
   |none=>none)
  |none=>match eH own m ex 0 all with
   |some i=>(match all[i]? with
    |some o=>(match qg G T own all o env H with
     |some v=>nQ all n m (i::ex) (cX o.dst v env) H
     |none=>none)
    |none=>none)
   |none=>(match fe m ex 0 all with
    |[]=>none
    |js=>uR all (fun j=>match all[j]? with
     |some o=>(match GJ call G T own all o env H with
      |some (x,H')=>bif Gu G T own all (cX o.dst x env) H' (yc own all (di (jE all) j) m++yb own all (di (jE all) j) ex) then nQ all n m (j::ex) (cX o.dst x env) H' else none
      |none=>none)
     |none=>none) js)
end
section
variable {P:Program} {G:Gl} {T:aE} {own:List Nat} {nt:Nat} {C:Cx} {call:RC} {ρ:Option Nat}
theorem jK (hc:uE P G call) {all:List Oper}:∀ (n m:Nat) (ex:List Nat) (env:Env) (H:List az) {L:List (Env×List az)},nQ call G T own all n m ex env H=some L→(∃ N,fx P G T own all N m ex env H (fun e h=>∃ p∈L,h=p.2∧iQ e p.1))∧∀ p∈L,∀ t,t∉dstsOf all→look p.1 t=look env t
 |0,m,ex,env,H,L,h=>by cases h
 |n+1,m,ex,env,H,L,h=>by
  unfold nQ at h
  cases h1:Nat.ble all.length m with
  |true=>
   rw[h1,cond_true] at h
   cases h
   refine⟨⟨1,CD h1 ⟨_,List.mem_singleton.2 rfl,rfl,iQ.refl _⟩⟩,fun p hp _ _=>?_⟩
   rw[List.mem_singleton.1 hp]
  |false=>
   rw[h1,cond_false] at h
   cases h2:fq m ex with
   |true=>
    rw[h2,cond_true] at h
    obtain⟨⟨N,hN⟩,hl⟩:=jK hc n (m+1) ex env H h
    exact⟨⟨N,CC h2 hN⟩,hl⟩
   |false=>
    rw[h2,cond_false] at h
    split at h
    ·rename_i o hs
     split at h
     ·rename_i v hv
      obtain⟨⟨N,hN⟩,hl⟩:=jK hc n (m+1) ex _ H h
      obtain⟨g1,g2,g3,g4⟩:=sN hs
      refine⟨⟨N+1,fun L hL=>?_⟩,fun p hp t ht=>(hl p hp t ht).trans (mH g1 ht)⟩
      exact .inl ⟨m,_,v,g1,oz hL g2,g3,qu hL g4,hv,hN (m::L) (zy hL)⟩
     ·cases h
    ·split at h
     ·rename_i i hf
      split at h
      ·rename_i o ho
       split at h
       ·rename_i v hv
        obtain⟨⟨N,hN⟩,hl⟩:=jK hc n m (i::ex) _ H h
        refine⟨⟨N+1,fun L hL=>?_⟩,fun p hp t ht=>(hl p hp t ht).trans (mH ho ht)⟩
        obtain⟨k,o',g1,g2,g3,g4,g5⟩:=kJ hf
        rw[Nat.zero_add] at g1
        subst g1
        rw[ho] at g2
        cases g2
        exact .inl ⟨i,_,v,ho,y8 hL g3,g4,qu hL g5,hv,hN (i::L) (yg hL i)⟩
       ·cases h
      ·cases h
     ·rename_i hf
      split at h
      ·cases h
      ·rename_i js hne
       obtain⟨hall,hback⟩:=rm h
       have open_:∀ {j:Nat} {lj:List (Env×List az)},(match all[j]? with
        |some o=>(match GJ call G T own all o env H with
         |some (x,H')=>bif Gu G T own all (cX o.dst x env) H' (yc own all (di (jE all) j) m++yb own all (di (jE all) j) ex) then nQ call G T own all n m (j::ex) (cX o.dst x env) H' else none
         |none=>none)
        |none=>none)=some lj→∃ o x H1,all[j]? =some o∧GJ call G T own all o env H=some (x,H1)∧Gu G T own all (cX o.dst x env) H1 (yc own all (di (jE all) j) m++yb own all (di (jE all) j) ex)=true∧nQ call G T own all n m (j::ex) (cX o.dst x env) H1=some lj:=by
        intro j lj hfj
        split at hfj
        ·rename_i o ho
         split at hfj
         ·rename_i x H1 hg
          cases hb:Gu G T own all (cX o.dst x env) H1 (yc own all (di (jE all) j) m++yb own all (di (jE all) j) ex) with
          |false=>rw[hb] at hfj;cases hfj
          |true=>rw[hb,cond_true] at hfj;exact⟨o,x,H1,ho,hg,hb,hfj⟩
         ·cases hfj
        ·cases hfj
       have hrest:∀ p∈L,∀ t,t∉dstsOf all→look p.1 t=look env t:=by
        intro p hp t ht
        obtain⟨j,hj,lj,e1,e2⟩:=hback p hp
        obtain⟨o,x,H1,ho,hg,hb,he⟩:=open_ e1
        exact((jK hc n m (j::ex) _ H1 he).2 p e2 t ht).trans (mH ho ht)
       obtain⟨N,hN⟩:=common (P:=fun N j=>∃ o,all[j]? =some o∧la P G T own all o env H fun x H1=>uC G T own all j m ex (cX o.dst x env) H1∧(fx P G T own all) N m (j::ex) (cX o.dst x env) H1 (fun e h=>∃ p∈L,h=p.2∧iQ e p.1))
        (fun j n n' hn ⟨o,ho,hx⟩=>⟨o,ho,jM (fun x H1 hh=>⟨hh.1,fx.le hn hh.2⟩) hx⟩) (fe m ex 0 all) (fun j hj=>by
         obtain⟨lj,e1,e2⟩:=hall j hj
         obtain⟨o,x,H1,ho,hg,hb,he⟩:=open_ e1
         obtain⟨⟨N,hN⟩,hl2⟩:=jK hc n m (j::ex) _ H1 he
         refine⟨N,o,ho,Fb hc hg ⟨BZ hb,fx.Gk (fun e h hh=>?_) hN⟩⟩
         obtain⟨p,hp,h3,h4⟩:=hh
         obtain⟨q,hq,h5,h6⟩:=e2 p hp
         refine⟨q,hq,h3.trans h5.symm,h4.trans fun t=>?_⟩
         by_cases ht:t∈dstsOf all
         ·exact h6 t ht
         ·rw[hl2 p hp t ht,mH ho ht,hrest q hq t ht])
       cases hr:fe m ex 0 all with
       |nil=>exact(hne hr).elim
       |cons j0 js0=>
        rw[hr] at hN
        exact⟨⟨N+1,rS hf hr hN⟩,hrest⟩
end
def A6 (id:Nat):List Nat→Nat→Option Nat
 |[],_=>none
 |k::r,i=>bif Nat.beq k id then some i else A6 id r (i+1)
theorem n6 {id:Nat}:∀ {ks:List Nat} {i j:Nat},A6 id ks i=some j→∃ k,j=i+k∧ks[k]? =some id
 |[],i,j,h=>by cases h
 |k::r,i,j,h=>by
  unfold A6 at h
  cases hb:Nat.beq k id with
  |true=>rw[hb] at h;cases h;exact⟨0,rfl,by rw[Nat.eq_of_beq_eq_true hb];rfl⟩
  |false=>
   rw[hb,cond_false] at h
   obtain⟨m,h1,h2⟩:=n6 h
   exact⟨m+1,by omega,h2⟩
def sq (H:List az) (n:Nat) (ks:List Nat):Nat→SV→Option SV
 |0,_=>none
 |d+1,x=>bif x.under n then some x else match x with
  | .agg fs=>(match iu (sq H n ks d) fs with
   |some ys=>some (.agg ys)
   |none=>none)
  | .tuple fs=>(match iu (sq H n ks d) fs with
   |some ys=>some (.tuple ys)
   |none=>none)
  | .list sz fs=>(match iu (sq H n ks d) fs with
   |some ys=>some (.list sz ys)
   |none=>none)
  | .fn f xs ys=>(match iu (sq H n ks d) xs with
   |some us=>(match iu (sq H n ks d) ys with
    |some vs=>some (.fn f us vs)
    |none=>none)
   |none=>none)
  | .sl id g off len=>(match A6 id ks 0 with
   |some i=>(match H[id]? with
    |some (.cells g' sz vals)=>bif Nat.beq g g' then some (.sl (n+i) 0 off len) else none
    |_=>none)
   |none=>none)
  | .ptr id g j o=>(match A6 id ks 0 with
   |some i=>(match H[id]? with
    |some (.cells g' sz vals)=>bif Nat.beq g g' then some (.ptr (n+i) 0 j o) else none
    |_=>none)
   |none=>none)
  | .map id=>(match A6 id ks 0 with
   |some i=>(match H[id]? with
    |some (.map kd es)=>some (.map (n+i))
    |_=>none)
   |none=>none)
  |_=>none
def gJ (ks:List Nat):ez:=ks.map fun id=>(id,0)
theorem gb {H:List az} {n:Nat} {ks:ez} {f:SV→Option SV} (hf:∀ x y,f x=some y→bV H n ks x y):∀ {xs ys:List SV},iu f xs=some ys→de H n ks xs ys
 |[],ys,h=>by cases h;exact .nil
 |x::r,ys,h=>by
  unfold iu at h
  split at h
  ·rename_i y hy
   split at h
   ·rename_i zs hzs
    cases h
    exact .cons _ _ _ _ (hf _ _ hy) (gb hf hzs)
   ·cases h
  ·cases h
theorem nr {ks:List Nat} {i id:Nat} (h:ks[i]? =some id):(gJ ks)[i]? =some (id,0):=by
 unfold gJ
 rw[List.getElem?_map,h];rfl
theorem jj {H:List az} {n:Nat} {ks:List Nat}:∀ (d:Nat) (x y:SV),sq H n ks d x=some y→bV H n (gJ ks) x y
 |0,x,y,h=>by cases h
 |d+1,x,y,h=>by
  unfold sq at h
  cases hu:x.under n with
  |true=>rw[hu,cond_true] at h;cases h;exact .same _ hu
  |false=>
   rw[hu,cond_false] at h
   cases x with
   |agg fs=>
    simp only at h
    split at h
    ·rename_i ys hy;cases h;exact .agg _ _ (gb (jj d) hy)
    ·cases h
   |tuple fs=>
    simp only at h
    split at h
    ·rename_i ys hy;cases h;exact .tuple _ _ (gb (jj d) hy)
    ·cases h
   |list sz fs=>
    simp only at h
    split at h
    ·rename_i ys hy;cases h;exact .list _ _ _ (gb (jj d) hy)
    ·cases h
   |fn f xs ys=>
    simp only at h
    split at h
    ·rename_i us hus
     split at h
     ·rename_i vs hvs;cases h;exact .fn _ _ _ _ _ (gb (jj d) hus) (gb (jj d) hvs)
     ·cases h
    ·cases h
   |sl id g off len=>
    simp only at h
    split at h
    ·rename_i i hi
     obtain⟨k,rfl,hk⟩:=n6 hi
     split at h
     ·rename_i g' sz vals hH
      cases hg:Nat.beq g g' with
      |false=>rw[hg] at h;cases h
      |true=>
       rw[hg,cond_true] at h
       cases h
       have hg:=Nat.eq_of_beq_eq_true hg
       subst hg
       have:=bV.Di (H:=H) (n:=n) (ks:=gJ ks) k id 0 g off len sz vals (nr hk) hH (Nat.zero_le _)
       simpa using this
     ·cases h
    ·cases h
   |ptr id g j o=>
    simp only at h
    split at h
    ·rename_i i hi
     obtain⟨k,rfl,hk⟩:=n6 hi
     split at h
     ·rename_i g' sz vals hH
      cases hg:Nat.beq g g' with
      |false=>rw[hg] at h;cases h
      |true=>
       rw[hg,cond_true] at h
       cases h
       have hg:=Nat.eq_of_beq_eq_true hg
       subst hg
       have:=bV.zZ (H:=H) (n:=n) (ks:=gJ ks) k id 0 g j o sz vals (nr hk) hH (Nat.zero_le _)
       simpa using this
     ·cases h
    ·cases h
   |map id=>
    simp only at h
    split at h
    ·rename_i i hi
     obtain⟨k,rfl,hk⟩:=n6 hi
     split at h
     ·rename_i kd es hH
      cases h
      have:=bV.zY (H:=H) (n:=n) (ks:=gJ ks) k id 0 kd es (nr hk) hH
      simpa using this
     ·cases h
    ·cases h
   |_=>cases h
def yQ (f:SV→List Nat):List SV→List Nat
 |[]=>[]
 |x::r=>f x++yQ f r
def wV (n:Nat):Nat→SV→List Nat
 |0,_=>[]
 |d+1,x=>match x with
  | .agg fs=>yQ (wV n d) fs
  | .tuple fs=>yQ (wV n d) fs
  | .list _ fs=>yQ (wV n d) fs
  | .fn _ xs ys=>yQ (wV n d) xs++yQ (wV n d) ys
  | .sl id _ _ _=>bif Nat.ble n id then [id] else []
  | .ptr id _ _ _=>bif Nat.ble n id then [id] else []
  | .map id=>bif Nat.ble n id then [id] else []
  |_=>[]
def BY:List Nat→List Nat→List Nat
 |ks,[]=>ks
 |ks,x::r=>bif fq x ks then BY ks r else BY (ks++[x]) r
def GU (n:Nat) (H:List az):List Nat→List Nat
 |[]=>[]
 |id::r=>(match H[id]? with
  |some (.cells _ _ vals)=>yQ (wV n 8) vals
  |some (.map _ es)=>es.foldr (fun p l=>wV n 8 p.2++l) []
  |_=>[])++GU n H r
def DH:List Nat→Bool
 |[]=>true
 |k::r=>bif fq k r then false else DH r
theorem Ae:∀ {ks:List Nat},DH ks=true→ks.Nodup
 |[],_=>List.nodup_nil
 |k::r,h=>by
  unfold DH at h
  cases hb:fq k r with
  |true=>rw[hb] at h;cases h
  |false=>
   rw[hb,cond_false] at h
   refine List.nodup_cons.2 ⟨fun hm=>?_,Ae h⟩
   rw[dz.2 hm] at hb
   cases hb
def FK (f:SV→Option SV) (n:Nat):List (SV×SV)→Option (List (SV×SV))
 |[]=>some []
 |(k,x)::r=>bif k.under n then (match f x with
  |some y=>(match FK f n r with
   |some r'=>some ((k,y)::r')
   |none=>none)
  |none=>none) else none
theorem An {H:List az} {n:Nat} {ks:ez} {f:SV→Option SV} (hf:∀ x y,f x=some y→bV H n ks x y):∀ {es fs:List (SV×SV)},FK f n es=some fs→jG H n ks es fs
 |[],fs,h=>by cases h;exact .nil
 |(k,x)::r,fs,h=>by
  unfold FK at h
  cases hk:k.under n with
  |false=>rw[hk] at h;cases h
  |true=>
   rw[hk,cond_true] at h
   split at h
   ·rename_i y hy
    split at h
    ·rename_i r' hr;cases h;exact .cons _ _ _ _ _ hk (hf _ _ hy) (An hf hr)
    ·cases h
   ·cases h
def rO (H:List az) (n:Nat) (ks:List Nat):List Nat→Option (List az)
 |[]=>some []
 |id::r=>bif Nat.ble n id then (match H[id]? with
  |some (.cells _ sz vals)=>(match iu (sq H n ks 12) vals with
   |some ys=>(match rO H n ks r with
    |some bs=>some (.cells 0 sz ys::bs)
    |none=>none)
   |none=>none)
  |some (.map kd es)=>(match FK (sq H n ks 12) n es with
   |some fs=>(match rO H n ks r with
    |some bs=>some (.map kd fs::bs)
    |none=>none)
   |none=>none)
  |_=>none) else none
theorem pr {H:List az} {n:Nat} {ks:List Nat}:∀ {r:List Nat} {bs:List az},rO H n ks r=some bs→en H n (gJ ks) (gJ r) bs
 |[],bs,h=>by cases h;exact .nil
 |id::r,bs,h=>by
  unfold rO at h
  cases hn:Nat.ble n id with
  |false=>rw[hn] at h;cases h
  |true=>
   rw[hn,cond_true] at h
   have hn:=Nat.le_of_ble_eq_true hn
   split at h
   ·rename_i g sz vals hH
    split at h
    ·rename_i ys hy
     split at h
     ·rename_i bs' hb;cases h;exact .cells id 0 _ _ _ _ _ _ hH hn (Nat.zero_le _) (gb (jj 12) (by rw[List.drop_zero];exact hy)) (pr hb)
     ·cases h
    ·cases h
   ·rename_i kd es hH
    split at h
    ·rename_i fs hf
     split at h
     ·rename_i bs' hb;cases h;exact .map id _ _ _ _ _ hH hn (An (jj 12) hf) (pr hb)
     ·cases h
    ·cases h
   ·cases h
def yK (f:SV→Option SV) (env:Env):List Nat→Env
 |[]=>[]
 |t::r=>match mT env t with
  |some x=>(match f x with
   |some y=>(t,y)::yK f env r
   |none=>yK f env r)
  |none=>yK f env r
def jt (n:Nat) (ts:List Nat) (seen:List Nat):Env→Env
 |[]=>[]
 |(t,x)::r=>bif fq t ts||fq t seen then jt n ts seen r else bif x.under n then (t,x)::jt n ts (t::seen) r else jt n ts (t::seen) r
theorem qw {H:List az} {n:Nat} {ks:ez} {f:SV→Option SV} (hf:∀ x y,f x=some y→bV H n ks x y) {env:Env}:∀ (ts:List Nat),∀ p∈yK f env ts,∃ x,look env p.1=some x∧bV H n ks x p.2
 |[],p,hp=>by cases hp
 |t::r,p,hp=>by
  unfold yK at hp
  split at hp
  ·rename_i x hx
   rw[fS] at hx
   split at hp
   ·rename_i y hy
    rcases List.mem_cons.1 hp with rfl|hp
    ·exact⟨x,hx,hf _ _ hy⟩
    ·exact qw hf r p hp
   ·exact qw hf r p hp
  ·exact qw hf r p hp
theorem nO {n:Nat} {ts:List Nat}:∀ (env:Env) (seen:List Nat),∀ p∈jt n ts seen env,p.1∉seen∧look env p.1=some p.2∧p.2.under n=true
 |[],seen,p,hp=>by cases hp
 |(t,x)::r,seen,p,hp=>by
  unfold jt at hp
  have step:∀ (seen':List Nat),(∀ s,s∈seen→s∈seen')→(t∈ts∨t∈seen')→p∈jt n ts seen' r→(p.1≠t)→p.1∉seen∧look ((t,x)::r) p.1=some p.2∧p.2.under n=true:=by
   intro seen' h1 h2 h3 h4
   obtain⟨g1,g2,g3⟩:=nO r seen' p h3
   refine⟨fun h=>g1 (h1 _ h),?_,g3⟩
   unfold look
   rw[if_neg h4]
   exact g2
  cases hb:(fq t ts||fq t seen) with
  |true=>
   rw[hb,cond_true] at hp
   rw[Bool.or_eq_true] at hb
   have hne:p.1≠t:=by
    intro e
    obtain⟨g1,g2,g3⟩:=nO r seen p hp
    have hts:p.1∉ts:=envR_ts r seen p hp
    rcases hb with hb|hb
    ·exact hts (e ▸ dz.1 hb)
    ·exact g1 (e ▸ dz.1 hb)
   exact step seen (fun s h=>h) (by rcases hb with hb|hb;exact .inl (dz.1 hb);exact .inr (dz.1 hb)) hp hne
  |false=>
   rw[hb,cond_false] at hp
   rw[Bool.or_eq_false_iff] at hb
   have hts:t∉seen:=fun h=>by rw[dz.2 h] at hb;cases hb.2
   cases hu:x.under n with
   |true=>
    rw[hu,cond_true] at hp
    rcases List.mem_cons.1 hp with rfl|hp
    ·refine⟨hts,?_,hu⟩
     unfold look
     rw[if_pos rfl]
    ·have hne:p.1≠t:=fun e=>(nO r (t::seen) p hp).1 (e ▸ List.mem_cons_self ..)
     exact step (t::seen) (fun s h=>List.mem_cons_of_mem _ h) (.inr (List.mem_cons_self ..)) hp hne
   |false=>
    rw[hu,cond_false] at hp
    have hne:p.1≠t:=fun e=>(nO r (t::seen) p hp).1 (e ▸ List.mem_cons_self ..)
    exact step (t::seen) (fun s h=>List.mem_cons_of_mem _ h) (.inr (List.mem_cons_self ..)) hp hne
where
 envR_ts {n:Nat} {ts:List Nat}:∀ (env:Env) (seen:List Nat),∀ p∈jt n ts seen env,p.1∉ts
 |[],seen,p,hp=>by cases hp
 |(t,x)::r,seen,p,hp=>by
  unfold jt at hp
  cases hb:(fq t ts||fq t seen) with
  |true=>rw[hb,cond_true] at hp;exact envR_ts r seen p hp
  |false=>
   rw[hb,cond_false] at hp
   rw[Bool.or_eq_false_iff] at hb
   cases hu:x.under n with
   |true=>
    rw[hu,cond_true] at hp
    rcases List.mem_cons.1 hp with rfl|hp
    ·intro h;rw[dz.2 h] at hb;cases hb.1
    ·exact envR_ts r _ p hp
   |false=>rw[hu,cond_false] at hp;exact envR_ts r _ p hp
theorem sP {H:List az} {n:Nat} {ks:ez} {env:Env}:∀ {env2:Env},(∀ p∈env2,∃ x,look env p.1=some x∧bV H n ks x p.2)→gR H n ks env2 env
 |[],_=>trivial
 |(t,y)::r,h=>⟨h (t,y) (List.mem_cons_self ..),sP fun p hp=>h p (List.mem_cons_of_mem _ hp)⟩
def DE (n:Nat) (env:Env):List Nat→List Nat
 |[]=>[]
 |t::r=>(match mT env t with
  |some x=>wV n 8 x
  |none=>[])++DE n env r
def Ih (n:Nat) (ts:List Nat) (env:Env) (H:List az):List Nat:=
 let k0:=BY [] (DE n env ts)
 let k1:=BY k0 (GU n H k0)
 BY k1 (GU n H k1)
def yn (n:Nat) (ts ks:List Nat) (env:Env) (H:List az):Option (Env×List az):=
 bif Nat.ble n H.length&&(H.take n).all (·.pL n)&&DH ks then (match rO H n ks ks with
  |some KB=>some (yK (sq H n ks 12) env ts++jt n ts [] env,H.take n++KB)
  |none=>none) else none
def yp (n:Nat) (ts:List Nat) (p:Env×List az):Option (Env×List az):=yn n ts (Ih n ts p.1 p.2) p.1 p.2
theorem tu {G:Gl} {nt:Nat} {C:Cx} {n:Nat} {ts ks:List Nat} {env:Env} {H:List az} {q:Env×List az} (hG:aw G) (hB:eJ G n) (hC:C.H.length≤n) (h:yn n ts ks env H=some q):Wk G nt C ⟨env,H⟩ ⟨q.1,q.2⟩:=by
 unfold yn at h
 cases hb:(Nat.ble n H.length&&(H.take n).all (·.pL n)&&DH ks) with
 |false=>rw[hb] at h;cases h
 |true=>
  rw[hb,cond_true] at h
  simp only[Bool.and_eq_true] at hb
  obtain⟨⟨h1,h2⟩,h3⟩:=hb
  split at h
  ·rename_i KB hk
   cases h
   have hlen:(H.take n).length=n:=by rw[List.length_take];exact Nat.min_eq_left (Nat.le_of_ble_eq_true h1)
   have hcl:closed (H.take n):=fun B hB=>by rw[hlen];exact az.oV (List.all_eq_true.1 h2 B hB)
   have hsplit:H.take n++H.drop n=H:=List.take_append_drop ..
   have hk':=pr hk
   have hnd:((gJ ks).map (·.1)).Nodup:=by
    have:(gJ ks).map (·.1)=ks:=by simp[gJ,List.map_map,Function.comp_def]
    rw[this];exact Ae h3
   have key:Wk G nt C ⟨env,H.take n++H.drop n⟩ ⟨yK (sq H n ks 12) env ts++jt n ts [] env,H.take n++KB⟩:=by
    refine Wk.jz (gJ ks) KB hG (by rw[hlen];exact hB) (by rw[hlen];exact hC) hcl ⟨by rw[hlen,hsplit];exact hk',hnd⟩ ?_
    rw[hlen,hsplit]
    refine sP fun p hp=>?_
    rcases List.mem_append.1 hp with hp|hp
    ·exact qw (jj 12) ts p hp
    ·obtain⟨_,g2,g3⟩:=nO env [] p hp
     exact⟨_,g2,.same _ g3⟩
   rwa[hsplit] at key
  ·cases h
def kR:Env→Env→Bool
 |[],ys=>(match ys with|[]=>true|_=>false)
 |(t,x)::r,ys=>(match ys with|(s,y)::r'=>Nat.beq t s&&SV.same x y&&kR r r'|[]=>false)
theorem sy:∀ {a b:Env},kR a b=true→a=b
 |[],b,h=>by cases b with
  |nil=>rfl
  |cons=>simp[kR] at h
 |(t,x)::r,b,h=>by cases b with
  |nil=>simp[kR] at h
  |cons p r'=>
   obtain⟨s,y⟩:=p
   simp only[kR,Bool.and_eq_true] at h
   rw[Nat.eq_of_beq_eq_true h.1.1,SV.gl.1 _ _ h.1.2,sy h.2]
def nE (n:Nat) (ts:List Nat) (q:Env×List az):List (Env×List az)→Bool
 |[]=>true
 |p::r=>match yp n ts p with
  |some q'=>bif kR q.1 q'.1&&oM q.2 q'.2 then nE n ts q r else false
  |none=>false
theorem qM {n:Nat} {ts:List Nat} {q:Env×List az}:∀ {l:List (Env×List az)},nE n ts q l=true→∀ p∈l,yp n ts p=some q
 |p::r,h,p',hp'=>by
  unfold nE at h
  split at h
  ·rename_i q' hq
   cases hb:(kR q.1 q'.1&&oM q.2 q'.2) with
   |false=>rw[hb] at h;cases h
   |true=>
    rw[hb,cond_true] at h
    rw[Bool.and_eq_true] at hb
    rcases List.mem_cons.1 hp' with rfl|hp'
    ·rw[hq]
     obtain⟨a,b⟩:=q
     obtain⟨c,d⟩:=q'
     have e1:=sy hb.1
     have e2:=sA hb.2
     simp only at e1 e2
     rw[e1,e2]
    ·exact qM h p' hp'
  ·cases h
def oneOf (n:Nat) (ts:List Nat):List (Env×List az)→Option (Env×List az)
 |[]=>none
 |p::r=>match r with
  |[]=>some p
  |_=>(match yp n ts p with
   |some q=>bif nE n ts q r then some q else none
   |none=>none)
theorem DR {G:Gl} {nt:Nat} {C:Cx} {n:Nat} {ts:List Nat} {L:List (Env×List az)} {q:Env×List az} (hG:aw G) (hB:eJ G n) (hC:C.H.length≤n) (h:oneOf n ts L=some q):∀ p∈L,Wk G nt C ⟨p.1,p.2⟩ ⟨q.1,q.2⟩:=by
 unfold oneOf at h
 split at h
 ·cases h
 ·rename_i p r
  split at h
  ·cases h
   intro p' hp'
   rw[List.mem_singleton.1 hp']
   exact Wk.refl _
  ·split at h
   ·rename_i q' hq
    cases hb:nE n ts q' r with
    |false=>rw[hb] at h;cases h
    |true=>
     rw[hb,cond_true] at h
     cases h
     intro p' hp'
     rcases List.mem_cons.1 hp' with rfl|hp'
     ·exact tu hG hB hC hq
     ·exact tu hG hB hC (qM hb p' hp')
   ·cases h
end
section
section
variable (call:RC) (G:Gl) (T:aE) (own:List Nat) (nt:Nat)
def nP:Nat→Code→Env→List az→Option (Exit×Env×List az)
 |0,_,_,_=>none
 |n+1,cd,env,H=>match cd with
  | .skip=>some (.normal,env,H)
  | .label _=>some (.normal,env,H)
  | .ret=>some (.ret,env,H)
  | .exit id=>some (.exit id,env,H)
  | .cond x p q=>(match MP G env x with
   |some (.bool true)=>nP n p env H
   |some (.bool false)=>nP n q env H
   |_=>none)
  | .seq x y=>(match nP n x env H with
   |some (.normal,env',H')=>nP n y env' H'
   |r=>r)
  | .block id x=>(match nP n x env H with
   |some (.exit id',env',H')=>if id'=id then some (.normal,env',H') else some (.exit id',env',H')
   |r=>r)
  | .loop x=>(match nP n x env H with
   |some (.normal,env',H')=>nP n (.loop x) (Hz [] env') H'
   |r=>r)
  | .region _ ops false=>(match zP call G T own nt ops.toList ops.toList env H with
   |some (env',H')=>some (.normal,env',H')
   |none=>none)
  | .region _ ops true=>bif eG nt ops.toList then (match nQ call G T own ops.toList 300 0 [] env H with
   |some L=>(match oneOf H.length (dstsOf ops.toList) L with
    |some p=>some (.normal,p.1,p.2)
    |none=>none)
   |none=>none) else none
  |_=>none
end
section
variable {P:Program} {G:Gl} {T:aE} {own:List Nat} {nt:Nat} {C:Cx} {call:RC} {ρ:Option Nat}
theorem zO (hG:aw G) (hB:eJ G C.H.length) (hT:aq P T) (hm:P.follows .mixedOrders=true) (hc:uE P G call):∀ (N n:Nat),n≤N→∀ (cd:Code) (env:Env) (H:List az) (e:Exit) (env':Env) (H':List az),nP call G T own nt n cd env H=some (e,env',H')→
 ey P G nt ρ C cd (fun e2 s=>e2=e∧s.H=H'∧iQ s.env env') ⟨env,H⟩:=by
 intro N
 induction N with
 |zero=>
  intro n hn cd env H e env' H' h
  obtain rfl:n=0:=by omega
  cases h
 |succ N ih=>
  intro n hn cd env H e env' H' h
  cases n with
  |zero=>cases h
  |succ n=>
  have hn:n≤N:=by omega
  have ihn:=ih n hn
  unfold nP at h
  split at h
  ·cases h;exact ey.skip ⟨rfl,rfl,iQ.refl _⟩
  ·cases h;exact fun c a hc hi hg=>wpIn_label ⟨_,c,⟨rfl,rfl,iQ.refl _⟩,hc,rfl,hi,hg⟩
  ·cases h;exact ey.ret ⟨rfl,rfl,iQ.refl _⟩
  ·cases h;exact ey.exit ⟨rfl,rfl,iQ.refl _⟩
  ·rename_i x p q
   split at h
   ·rename_i hv
    rw[CH] at hv
    refine ey.cond ⟨_,hv,true,rfl,?_⟩
    exact⟨fun _=>ihn _ _ _ _ _ _ h,fun e=>(by cases e)⟩
   ·rename_i hv
    rw[CH] at hv
    refine ey.cond ⟨_,hv,false,rfl,?_⟩
    exact⟨fun e=>(by cases e),fun _=>ihn _ _ _ _ _ _ h⟩
   ·cases h
  ·rename_i x y
   split at h
   ·rename_i env1 H1 h1
    refine ey.seq (ey.mono (ihn _ _ _ _ _ _ h1) ?_)
    rintro e2 ⟨envx,Hx⟩ ⟨rfl,rfl,he⟩
    simp only at he
    exact ey.wk (Wk.env fun t x hx=>(he t).trans hx) (ihn _ _ _ _ _ _ h)
   ·rename_i r hr
    refine ey.seq (ey.mono (ihn _ _ _ _ _ _ h) ?_)
    rintro e2 ⟨envx,Hx⟩ ⟨rfl,rfl,he⟩
    simp only at he
    cases e2 with
    |normal=>exact(hr _ _ h).elim
    |_=>exact⟨rfl,rfl,he⟩
  ·rename_i id x
   split at h
   ·rename_i id' env1 H1 h1
    refine ey.block (ey.mono (ihn _ _ _ _ _ _ h1) ?_)
    rintro e2 ⟨envx,Hx⟩ ⟨rfl,rfl,he⟩
    simp only at he
    by_cases hid:id'=id
    ·rw[if_pos hid] at h
     cases h
     simp only[hid,if_true]
     exact⟨trivial,trivial,he⟩
    ·rw[if_neg hid] at h
     cases h
     simp only[hid,if_false]
     exact⟨trivial,trivial,he⟩
   ·rename_i r hr
    refine ey.block (ey.mono (ihn _ _ _ _ _ _ h) ?_)
    rintro e2 ⟨envx,Hx⟩ ⟨rfl,rfl,he⟩
    simp only at he
    cases e2 with
    |exit id'=>exact(hr _ _ _ h).elim
    |_=>exact⟨rfl,rfl,he⟩
  ·rename_i x
   have h0:nP call G T own nt (n+1) (.loop x) env H=some (e,env',H'):=by unfold nP;exact h
   refine ey.Gj (fun m s=>m≤n∧nP call G T own nt (m+1) (.loop x) s.env s.H=some (e,env',H')) n ⟨env,H⟩ (Wk.env fun t x hx=>hx) ⟨Nat.le_refl _,h0⟩ ?_
   rintro m ⟨env0,H0⟩ ⟨hmn,hr⟩
   unfold nP at hr
   simp only at hr
   split at hr
   ·rename_i env1 H1 h1
    refine ey.mono (ih m (by omega) _ _ _ _ _ _ h1) ?_
    rintro e2 ⟨envx,Hx⟩ ⟨rfl,rfl,he⟩
    simp only at he
    cases m with
    |zero=>cases h1
    |succ m=>exact⟨m,⟨Hz [] env1,_⟩,by omega,Wk.env (fun t x hx=>(he t).trans (ri _ _ _ _ hx).2),by omega,hr⟩
   ·rename_i r hr2
    refine ey.mono (ih m (by omega) _ _ _ _ _ _ hr) ?_
    rintro e2 ⟨envx,Hx⟩ ⟨rfl,rfl,he⟩
    simp only at he
    cases e2 with
    |normal=>exact(hr2 _ _ hr).elim
    |_=>exact⟨rfl,rfl,he⟩
  ·rename_i ops
   split at h
   ·rename_i env1 H1 h1
    cases h
    exact ey.region hT (wL hc _ h1 ⟨rfl,rfl,iQ.refl _⟩)
   ·cases h
  ·rename_i ops
   cases hd:eG nt ops.toList with
   |false=>rw[hd] at h;cases h
   |true=>
    rw[hd,cond_true] at h
    split at h
    ·rename_i L h1
     split at h
     ·rename_i p ho
      cases h
      obtain⟨⟨N2,hN⟩,_⟩:=jK (P:=P) hc _ _ _ _ _ h1
      intro c0 a0 hc0 hi0 hg0
      have hle:C.H.length≤H.length:=by
       have:=Grow.length hg0
       rw[hc0] at this
       exact this
      have hone:=DR (nt:=nt) (C:=C) hG (fun C0 h0=>Nat.le_trans (hB C0 h0) hle) hle ho
      refine ey.Gm (Q:=fun e2 s=>e2=Exit.normal∧∃ q∈L,s.H=q.2∧iQ s.env q.1) (ey.draw hT hm hd (fx.Gk (fun e h hh=>⟨rfl,hh⟩) hN [] (fun i=>by simp[LP,fq,Nat.blt_eq]))) ?_ c0 a0 hc0 hi0 hg0
      rintro e2 ⟨envx,Hx⟩ ⟨rfl,q,hq,rfl,he⟩
      exact⟨⟨p.1,p.2⟩,Wk.trans (Wk.env fun t x hx=>(he t).trans hx) (hone q hq),rfl,rfl,iQ.refl _⟩
     ·cases h
    ·cases h
  ·cases h
end
section
variable (P:Program) (G:Gl) (T:aE) (ow:FuncId→List Nat) (gc:FuncId→Bool) (ov:RC) (fuel:Nat)
def CI:Nat→RC
 |0=>fun _ _ _=>none
 |d+1=>fun f args H=>match ov f args H with
  |some r=>some r
  |none=>match P.funcs[f]? with
   |some fn=>(match fn.body with
    |some cd=>bif Nat.ble args.length fn.ntmps then (match nP (CI d) G T (ow f) fn.ntmps fuel cd (au args 0) H with
     |some (e,env,H')=>(match e with
      | .ret=>ob (iJ T env H' fn.results.toList) fun xs=>some (bif gc f then HC H.length (bA xs) H' else (bA xs,H'))
      | .normal=>ob (iJ T env H' fn.results.toList) fun xs=>some (bif gc f then HC H.length (bA xs) H' else (bA xs,H'))
      |_=>none)
     |none=>none) else none
    |none=>none)
   |none=>none
end
theorem uT {P:Program} {G:Gl} {T:aE} {ow:FuncId→List Nat} {gc:FuncId→Bool} {ov:RC} {fuel:Nat} (hG:aw G) (ho:uE P G ov) (hT:aq P T) (hm:P.follows .mixedOrders=true) (hn:∀ (f:FuncId) (fn:Func),P.funcs[f]? =some fn→(fn.name== "runtime.NumGoroutine")=false):∀ d,uE P G (CI P G T ow gc ov fuel d)
 |0=>fun f xs H x H' h=>by cases h
 |d+1=>fun f args H x H' h=>by
  unfold CI at h
  split at h
  ·rename_i r hr
   cases h
   exact ho _ _ _ _ _ hr
  split at h
  ·rename_i fn hf
   split at h
   ·rename_i cd hb
    cases hl:Nat.ble args.length fn.ntmps with
    |false=>rw[hl] at h;cases h
    |true=>
     rw[hl,cond_true] at h
     refine ag.DN hT hf hb (hn f fn hf) rfl (Nat.le_of_ble_eq_true hl) rfl fun C h1 h2 h3=>?_
     have hfin:∀ (xs:List SV) (H1:List az),(bif gc f then HC H.length (bA xs) H1 else (bA xs,H1))=(x,H')→Fin C H1 (bA xs) (fun r H2=>H2=H'∧r=x):=by
      intro xs H1 hx
      cases hg:gc f with
      |true=>
       rw[hg,cond_true] at hx
       have:=Fe (C:=C) (H':=H1) (x:=bA xs) (n0:=H.length) (by rw[h1])
       rw[hx] at this
       exact this
      |false=>
       rw[hg,cond_false] at hx
       cases hx
       exact Fin.same ⟨rfl,rfl⟩
     split at h
     ·rename_i e env1 H1 hr
      split at h
      ·obtain⟨xs,hx,h⟩:=aL h
       refine ey.mono (zO hG (by rw[h1];rw[h1] at h3;exact h3) hT hm (uT hG ho hT hm hn d) _ _ (Nat.le_refl _) _ _ _ _ _ _ hr) ?_
       rintro e2 ⟨envx,Hx⟩ ⟨rfl,rfl,he⟩
       exact⟨xs,(kg he).trans hx,hfin _ _ (Option.some.inj h)⟩
      ·obtain⟨xs,hx,h⟩:=aL h
       refine ey.mono (zO hG (by rw[h1];rw[h1] at h3;exact h3) hT hm (uT hG ho hT hm hn d) _ _ (Nat.le_refl _) _ _ _ _ _ _ hr) ?_
       rintro e2 ⟨envx,Hx⟩ ⟨rfl,rfl,he⟩
       exact⟨xs,(kg he).trans hx,hfin _ _ (Option.some.inj h)⟩
      ·cases h
     ·cases h
   ·cases h
  ·cases h
end
theorem v8 (G:Gl) (hG:aw G) (xs:List SV) (hu0:∀ n,SV.aB n xs=true) (H:List az) (hl:xs.length<4294967296):ag Tryz.prog G 42 [.list 1 xs] H (fun r H'=>H'=H++[.cells 0 1 xs]∧r= .sl H.length 0 0 xs.length):=by
 have hu:SV.aB H.length (List.drop 0 xs)=true:=hu0 _
 refine ag.aK TB [2,5] aF _ Tryz.func42 rfl (by decide) Tryz.ntmps42 (by simp) rfl (by simp only[au,Nat.reduceAdd];rfl) fun C R' hR hC hcl hB=>?_;have X:=aO;have hC':=congrArg List.length hC
 (refine bP ?_;with_reducible repeat' first|exact trivial|(apply af.mk<;>intro hb)|apply ax.mk)
 ·obtain rfl:xs=[]:=List.length_eq_zero_iff.1 hb
  exact jv [(H.length+1,0)] (.sl H.length 0 0 0) [.cells 0 1 []] hR hC' hcl ⟨rfl,rfl⟩
 ·exact jv [(H.length+1,0)] (.sl H.length 0 0 xs.length) [.cells 0 1 xs] hR hC' hcl ⟨rfl,rfl⟩
theorem v7 (G:Gl) (hG:aw G) (xs:List SV) (hu0:∀ n,SV.aB n xs=true) (H:List az) (hl:xs.length<4294967296):ag Tryz.prog G 94 [.list 8 xs] H (fun r H'=>H'=H++[.cells 0 8 xs]∧r= .sl H.length 0 0 xs.length):=by
 have hu:SV.aB H.length (List.drop 0 xs)=true:=hu0 _
 refine ag.aK TB [2,5] aF _ Tryz.func94 rfl (by decide) Tryz.ntmps94 (by simp) rfl (by simp only[au,Nat.reduceAdd];rfl) fun C R' hR hC hcl hB=>?_;have X:=aO;have hC':=congrArg List.length hC
 (refine bP ?_;with_reducible repeat' first|exact trivial|(apply af.mk<;>intro hb)|apply ax.mk)
 ·obtain rfl:xs=[]:=List.length_eq_zero_iff.1 hb
  exact jv [(H.length+1,0)] (.sl H.length 0 0 0) [.cells 0 8 []] hR hC' hcl ⟨rfl,rfl⟩
 ·exact jv [(H.length+1,0)] (.sl H.length 0 0 xs.length) [.cells 0 8 xs] hR hC' hcl ⟨rfl,rfl⟩
def xr (f:SV→SV→Bool):List SV→List SV→Bool
 |[],[]=>true
 |x::xs,y::ys=>f x y&&xr f xs ys
 |_,_=>false
def yZ:Nat→SV→SV→Bool
 |0,_,_=>false
 |d+1,x,y=>match x,y with
  | .agg a,.agg b=>xr (yZ d) a b
  | .list s a,.list t b=>Nat.beq s t&&xr (yZ d) a b
  | .nil,.list _ []=>true
  |x,y=>SV.same x y
theorem rX {f:SV→SV→Bool} (hf:∀ x y,f x y=true→∀ c v,aG c x v→aG c y v):∀ {xs ys:List SV},xr f xs ys=true→xs.length=ys.length∧∀ c vs,aD c xs vs→aD c ys vs
 |[],[],_=>⟨rfl,fun _ _ h=>h⟩
 |x::xs,y::ys,h=>by
  simp only[xr,Bool.and_eq_true] at h
  obtain⟨h1,h2⟩:=rX hf h.2
  refine⟨by simp[h1],fun c vs hv=>?_⟩
  obtain⟨u,us,a1,a2,rfl⟩:=aD.bC.1 hv
  exact aD.bT (hf _ _ h.1 _ _ a1) (h2 _ _ a2)
 |[],_::_,h=>by cases h
 |_::_,[],h=>by cases h
theorem vj:∀ (d:Nat) (x y:SV),yZ d x y=true→∀ c v,aG c x v→aG c y v
 |0,_,_,h=>by cases h
 |d+1,x,y,h=>by
  unfold yZ at h
  split at h
  ·rename_i a b
   obtain⟨_,h2⟩:=rX (vj d) h
   intro c v hv
   simp only[aG] at hv ⊢
   obtain⟨vs,e1,e2,e3⟩:=hv
   exact⟨vs,h2 _ _ e1,e2,e3⟩
  ·rename_i s a t b
   simp only[Bool.and_eq_true] at h
   obtain⟨h1,h2⟩:=rX (vj d) h.2
   have hs:=Nat.eq_of_beq_eq_true h.1
   subst hs
   intro c v hv
   simp only[aG] at hv ⊢
   obtain⟨p,cap,e1,e2,e3,e4⟩:=hv
   refine⟨p,cap,by rw[e1,h1],by omega,e3,?_⟩
   rcases e4 with e4|⟨b',o,vs,q1,q2,q3⟩
   ·left
    subst e4
    exact List.length_eq_zero_iff.1 (by rw[← h1];rfl)
   ·exact .inr ⟨b',o,vs,q1,h2 _ _ q2,q3⟩
  ·intro c v hv
   simp only[aG] at hv ⊢
   exact⟨none,0,hv,Nat.le_refl _,Nat.zero_le _,.inl trivial⟩
  ·rw[SV.gl.1 _ _ h]
   exact fun _ _ h=>h
theorem ag.Lb {P:Program} {G:Gl} {f:FuncId} {x y:SV} {H:List az} {R:SV→List az→Prop} (h:ag P G f [y] H R) {d:Nat} (hn:yZ d x y=true):ag P G f [x] H R:=
 ⟨h.1,fun c vs h1 h2 h3 h4=>h.2 c vs h1 h2 h3 (by
  obtain⟨u,us,a1,a2,rfl⟩:=aD.bC.1 h4
  exact aD.bT (vj d _ _ hn _ _ a1) a2)⟩
def nF:aI:=[102]
def HV:aI:=[80,114,105,109,46,66,111,120]
def FV (t:aI):Ex:= .mk 1 t 0 0 [] [] [] []
def EA:Ex:= .mk 4 [] 0 0 [] [FV nF,FV [115]] [] []
def EM:Ex:= .mk 3 [] 0 0 [[115]] [.mk 4 [] 0 0 [] [FV nF,.mk 7 HV 0 0 [] [EA] [] [],.mk 2 [] 3 0 [] [] [] []] [] []] [] []
def EF:Ex:= .mk 3 [] 0 0 [[97]] [FV [97]] [] []
def P0:Pg:=⟨mO,[.mk lV EM,.mk nF EF]⟩
def MT:aI:=[116,35,49]
def MU:aI:=[116,35,50]
def HS (s:aI):Sg:= .mk 1 [] 0 [⟨s,0⟩] [] [] []
def Q0 (f1 f2 f3:List aI):List Sb:=[.mk lV 1 f1 [[115]] false [] [] [.mk 6 [] 0 [] [.mk 2 nF 0 [⟨MT,0⟩,⟨[],3⟩] [] [] []] [.mk MU 2 f3 [] true [] [] [.mk 2 nF 0 [⟨[115],0⟩] [] [] []],.mk MT 3 [] [] false HV [⟨MU,0⟩] []] []],.mk nF 1 f2 [[97]] false [] [] [HS [97]]]
def MS (f:FuncId) (sz:Nat) (xs:List SV) (H:List az):Option (SV×List az):=
 bif ((Nat.beq f 42&&Nat.beq sz 1)||(Nat.beq f 94&&Nat.beq sz 8)||(Nat.beq f 20&&Nat.beq sz 4))&&SV.aB 0 xs&&Nat.blt xs.length 1000
 then some (.sl H.length 0 0 xs.length,H++[.cells 0 sz xs]) else none
def Ku:RC:=fun f args H=>match args with
 |[.list sz xs]=>MS f sz xs H
 |[x]=>bif Nat.beq f 7 then (bif yZ 30 x P0.sv then some (.tuple [BG mO (Q0 [] [] [[115]]),.int .i64 0],H) else none) else none
 |_=>none
def MD (f:FuncId):List Nat:=bif Nat.beq f 99 then [32] else []
def KY (f:FuncId):Bool:=false
def M6:Option (SV×List az)→Bool
 |some (.bool true,_)=>true
 |_=>false
section
set_option maxRecDepth 100000
theorem AH (l:Option Cx):M6 (CI Tryz.prog ⟨[],l⟩ TB MD KY Ku 5000 40 6 [] [])=true:=by kernel_rfl
end
section
set_option maxRecDepth 100000
theorem DF:∀ (f:FuncId) (fn:Func),Tryz.prog.funcs[f]? =some fn→(fn.name== "runtime.NumGoroutine")=false:=by
 intro f fn h
 have hall:(Tryz.prog.funcs.toList.all fun fn=>!(fn.name== "runtime.NumGoroutine"))=true:=by decide+kernel
 have hm:fn∈Tryz.prog.funcs.toList:=by
  rw[← Array.getElem?_toList] at h
  exact List.mem_of_getElem? h
 have:=List.all_eq_true.1 hall fn hm
 simpa using this
theorem oQ {l s:List aI} (h1:s.Perm l) (h2:s.Pairwise (fun x y=>decide (x≤y)=true)):eC l=s:=by
 rw[← xU h1,eC]
 exact List.mergeSort_of_pairwise h2
def Nd:List aI:=[lV,[97],[102],[115]]
theorem KS:dm P0.binds=false:=by
 have h:eC (bj P0.binds)=Nd:=oQ (by decide+kernel) (by decide+kernel)
 unfold dm
 rw[h]
 decide+kernel
theorem GZ:cV P0=0:=by
 unfold cV
 rw[KS]
 decide+kernel
theorem M3:cz EM=[nF]:=oQ (by decide+kernel) (by decide+kernel)
theorem M1:cz EF=[]:=oQ (by decide+kernel) (by decide+kernel)
theorem M0:cz EA=[nF,[115]]:=oQ (by decide+kernel) (by decide+kernel)
theorem Ni:iO (pK P0.binds) EM=[]:=by unfold iO;rw[M3];decide+kernel
theorem Nh:iO (pK P0.binds) EF=[]:=by unfold iO;rw[M1];decide+kernel
theorem Ng:iO (pK P0.binds) EA=[[115]]:=by unfold iO;rw[M0];decide+kernel
theorem Le:ED P0=Q0 (iO (pK P0.binds) EM) (iO (pK P0.binds) EF) (iO (pK P0.binds) EA):=by kernel_rfl
theorem Lc:ED P0=Q0 [] [] [[115]]:=by rw[Le,Ni,Nh,Ng]
theorem G7 (G:Gl) (hG:aw G) (C0:Cx) (hb:G.base=some C0) (hL:gZ C0) (h0:C0.H=[]):uE Tryz.prog G Ku:=by
 have hB:eJ G 0:=fun C1 h1=>by rw[hb] at h1;cases h1;rw[h0];exact Nat.le_refl _
 intro f xs H x H' h
 unfold Ku at h
 split at h
 ·rename_i sz xs
  unfold MS at h
  generalize hc:((Nat.beq f 42&&Nat.beq sz 1)||(Nat.beq f 94&&Nat.beq sz 8)||(Nat.beq f 20&&Nat.beq sz 4))=cl at h
  cases hc2:(cl&&SV.aB 0 xs&&Nat.blt xs.length 1000) with
  |false=>rw[hc2] at h;cases h
  |true=>
   rw[hc2,cond_true] at h
   cases h
   simp only[Bool.and_eq_true] at hc2
   obtain⟨⟨h1,h2⟩,h3⟩:=hc2
   subst h1
   have h3:xs.length<1000:=by simpa [Nat.blt_eq] using h3
   have hu:∀ n,SV.aB n xs=true:=fun n=>(SV.cD (Nat.zero_le n)).2 _ h2
   simp only[Bool.or_eq_true,Bool.and_eq_true] at hc
   rcases hc with (hc|hc)|hc<;>(obtain⟨a1,a2⟩:=hc;have a1:=Nat.eq_of_beq_eq_true a1;have a2:=Nat.eq_of_beq_eq_true a2;subst a1;subst a2)
   ·exact v8 G hG xs hu H (by omega)
   ·exact v7 G hG xs hu H (by omega)
   ·exact pQ G hG xs hu H (by omega)
 ·rename_i y _
  cases hf:Nat.beq f 7 with
  |true=>
   rw[hf,cond_true] at h
   have hf:=Nat.eq_of_beq_eq_true hf
   subst hf
   cases hn:yZ 30 y P0.sv with
   |false=>rw[hn] at h;cases h
   |true=>
    rw[hn,cond_true] at h
    cases h
    have:=F3 G hG hB C0 hb hL P0 H (by decide+kernel) (by decide+kernel) (by decide+kernel) GZ
    rw[Lc] at this
    exact this.Lb hn
  |false=>rw[hf] at h;cases h
 ·cases h
theorem Cd (G:Gl) (hG:aw G) (C0:Cx) (hb:G.base=some C0) (hL:gZ C0) (h0:C0.H=[]) (H:List az):ag Tryz.prog G 6 [] H (fun r H'=>H'=H∧r= .bool true):=by
 have hr:=AH (some C0)
 have hG0:aw ⟨[],some C0⟩:=fun p hp=>by cases hp
 have hov:=G7 ⟨[],some C0⟩ hG0 C0 rfl hL h0
 have hev:=uT (P:=Tryz.prog) (G:=⟨[],some C0⟩) (T:=TB) (ow:=MD) (gc:=KY) (ov:=Ku) (fuel:=5000) hG0 hov aF xl DF 40
 generalize hE:CI Tryz.prog ⟨[],some C0⟩ TB MD KY Ku 5000 40 6 [] []=E at hr
 cases E with
 |none=>cases hr
 |some r=>
  obtain⟨v,H1⟩:=r
  cases v with
  |bool b=>cases b with
   |false=>cases hr
   |true=>exact ag.lift (G0:=⟨[],some C0⟩) C0 rfl hb h0 hG0 (fun p hp=>by cases hp) ((hev _ _ _ _ _ hE).mono fun r H2 h=>h.2) H
  |_=>cases hr
end
theorem xW (G:Gl) (hG:aw G) (hB0:eJ G 0) (C0:Cx) (hb0:G.base=some C0) (hl0:gZ C0) (h00:C0.H=[]) (p:Pg) (H:List az) (hw:aW p.binds<67108864) (hcn:p.cons.length<1073741824) (hns:∀ s∈bj p.binds,s.length<4294967296):
 ag Tryz.prog G 3 [p.sv] H (fun r H'=>H'=H∧r= .bool true):=by
 have cA:=fun H2=>Cd G hG C0 hb0 hl0 h00 H2
 have cO:=fun h0 H2=>F3 G hG hB0 C0 hb0 hl0 p H2 hw hcn hns h0
 have cOb:=fun h0 H2=>Gs G hG p H2 hw (by omega) h0
 have cR:=fun h0 H2=>Hh G hG p H2 hw hcn hns h0
 have cRb:=fun h0 H2=>FF G hG p H2 hw (by omega) h0
 have htl:=G6 p
 have hsz:=G5 p
 have cS:=fun H2=>BX G hG p.cons p.binds H2 (by omega) (by omega) hns
 generalize ED p=L at*
 generalize cV p=S at*
 obtain⟨cons,binds⟩:=p
 simp only at*
 rw[show(Pg.mk cons binds).sv= .agg [.list 4 (aQ cons),.list 9 (ao binds)] from rfl] at*
 unfold BG at cO cR
 have hcl0:=fL cons
 have bF:=fun n=>bN n cons
 have dp:=aY
 refine ag.aK TB [] aF _ Tryz.func3 rfl (by decide) Tryz.ntmps3 (by simp) rfl (by simp only[au,Nat.reduceAdd];rfl) fun C R' hR hC hcl hB=>?_;have X:=aO;have hC':=congrArg List.length hC
 (refine run ?_;with_reducible repeat' first|exact trivial|(apply af.mk<;>intro hb)|apply ax.mk)
 refine bh (cS _) ?_
 rintro r H' ⟨rfl,b,rfl⟩
 have c1:=cA
 cases b
 ·(refine run ?_;with_reducible repeat' first|exact trivial|(apply af.mk<;>intro hb)|apply ax.mk)
  exact aS (n0:=H.length) hR hC' hcl (.same _ rfl) ⟨rfl,rfl⟩
 by_cases h0:S=0
 ·subst h0
  have c2:=cO rfl
  have c3:=cR rfl
  have hsz:=hsz rfl
  have htl:=htl rfl
  have c4:=fun H=>(vA G hG (aW binds) (by omega) (ek L)).2 L H (Nat.le_refl _) (by omega) htl
  have X:=And.intro aO hcl0
  (refine run ?_;with_reducible repeat' first|exact trivial|(apply af.mk<;>intro hb)|apply ax.mk)
  exact aS (n0:=H.length) hR hC' hcl (.same _ rfl) ⟨rfl,rfl⟩
 ·have c2:=cOb h0
  have c3:=cRb h0
  have c4:=fun H=>(vA G hG 0 (by omega) 0).2 [] H (Nat.le_refl _) (by simp[ek]) (by simp[pJ])
  rw[show aX []=[] from rfl] at c4
  (refine run ?_;with_reducible repeat' first|exact trivial|(apply af.mk<;>intro hb)|apply ax.mk)
  exact aS (n0:=H.length) hR hC' hcl (.same _ rfl) ⟨rfl,rfl⟩
end Go.Proofs.YtedejleokilohaaGreatDoor
section
open Go
namespace Go.Proofs.YtedejleokilohaaGreatDoor.stgMakes
open Go Go.ChangeShapes Go.WideShapes Go.RowKit
set_option maxRecDepth 100000 in
theorem Cw (H:Type) (enc:TypeId×Value→H) (W:World) (base:Nat) (args:Array Value) (ds gs:List (DataW H)) (before:List MemPlace)
 (hval:∀ (j:Nat) t v,Tryz.f3.params[j]? =some t→args[j]? =some v→Value.okWide Tryz.prog W .any base t v)
 (hW:DataW.Whole enc Tryz.prog Tryz.f3.params.toList Rows.stgMakesSpec.vars false W args.toList ds gs before) (hL:laidMetH Tryz.prog Rows.stgMakesUptoRow.laid W) (hk:Rows.uptoSmall H (ds++gs)=true):
 Calls Tryz.prog 3 args W fun e W'=>∃ v,e= .returned v∧Rows.stgMakesSpec.post enc Tryz.prog Tryz.f3 false true false false W args v W':=by
 have hW':=hW
 obtain⟨p,q,hA0,hV,rfl,hfz,hnd⟩:=hW
 have hA:DataW.TrodAll enc Tryz.prog W 0 (fun _=>true) true Tryz.f3.params.toList args.toList ds p:=hA0
 rw[Tryz.params3] at hA hval
 obtain⟨v0,vs0,d0,ds0,p0,q0,hargs,rfl,rfl,h0,r0⟩:=trodAll_cons hA
 obtain⟨rfl,rfl,rfl⟩:=trodAll_nil r0
 obtain rfl:args= #[v0]:=by cases args;simp_all
 obtain⟨rfl,rfl⟩:=trodVars_none hV
 obtain⟨cs0,rfl,_⟩:=okWide_struct Tryz.underlying25 (hval 0 25 v0 (by simp) (by simp))
 obtain⟨fuel0,hf0⟩:=h0
 obtain⟨e0,hg0,_,hw0⟩:=FJ fuel0 _ _ hf0
 have hbulk:e0.wt≤1048576:=by
  simp only[Rows.uptoSmall,decide_eq_true_eq,List.append_nil,Rows.uptoBulkAll] at hk
  simp only at hw0
  omega
 refine(yX (args:=[e0.sv]) (vs:=[.agg cs0]) (xW (GB W) (CQ W) (GC W) (yd W) rfl (Ik hL) rfl e0 [] (by unfold Pg.wt at hbulk;omega) (by have:=Av (f:=Cn.wt) (fun x=>by unfold Cn.wt;omega) e0.cons;unfold Pg.wt at hbulk;omega) (fun s hs=>by have:=vW hs;unfold Pg.wt at hbulk;omega)) (K5 W) ?_ (fun W'=>Dm laid rfl hW' ?_ rfl (by kernel_rfl) rfl rfl rfl)).mono ?_
 ·refine aD.bT ?_ (aD.cw)
  ·simp only[Pg.sv,aG];exact⟨cs0.toList,hg0.1,hg0.2,rfl⟩
 ·intro t ht
  rw[Tryz.params3] at ht
  simp only[List.mem_cons,List.not_mem_nil,or_false] at ht
  rcases ht with rfl<;>exact⟨by kernel_rfl,of_decide_eq_true (by kernel_rfl)⟩
 ·rintro _ W' ⟨v,rfl,rfl,hp⟩
  exact⟨_,rfl,hp⟩
theorem Dl (os:Os):laidMet Tryz.prog Rows.stgMakesUptoRow.laid ((pw os).forCall (fun _ _=>0) ⟨#[],#[Value.agg #[.slice none 0 0,.slice none 0 0]],[]⟩).memory:=
 laidMet_of_run' 8 (by kernel_rfl) (by kernel_rfl)
theorem reads (os:Os) {H:Type} (enc:TypeId×Value→H):∃ places,DataW.whole enc Tryz.prog ((pw os).forCall (fun _ _=>0) ⟨#[],#[Value.agg #[.slice none 0 0,.slice none 0 0]],[]⟩).memory Tryz.f3.params.toList Rows.stgMakesSpec.vars false (#[Value.agg #[.slice none 0 0,.slice none 0 0]]:Array Value).toList 8=some ([.agg [.nil,.nil]],[],places):=
 ⟨[],by kernel_rfl⟩
set_option maxRecDepth 100000 in
theorem lifted (os:Os) (started:os.Started) (H:Type) (enc:TypeId×Value→H) (F:Stop.Interp):
 ReturnsInHanded {} Tryz.checked os 3 .any ((Rows.OpenSpec.upto Rows.stgMakesSpec).preRow enc Tryz.prog Tryz.f3 Rows.stgMakesUptoRow.domain false Rows.stgMakesUptoRow.laid) (((Rows.OpenSpec.upto Rows.stgMakesSpec).at F).post enc Tryz.prog Tryz.f3 false true false false):=by
 obtain⟨places,hx⟩:=reads os enc
 refine returnsInHanded_of_row (C:=Tryz.checked) (s:=Rows.OpenSpec.upto Rows.stgMakesSpec) own started (by kernel_rfl) Tryz.func3
  (witness_row_at (enc:=enc) (C:=Tryz.checked) false (pw os) #[Value.agg #[.slice none 0 0,.slice none 0 0]] rfl (by kernel_rfl) (by kernel_rfl) (by kernel_rfl)
   (OpenSpec.preRow_of_cond 8 hx (by kernel_rfl) (fun k hk=>by cases hk;kernel_rfl) (by kernel_rfl) (Dl os))) ?_
 intro W base args ds gs before hval hW _ hcond _ hL _ _
 exact Cw H enc W base args ds gs before hval hW hL (hcond _ rfl)
theorem said:Rows.StgMakesUptoSaid:=
 OpenClaim.holds_of_cond 3 Tryz.f3 rfl rfl rfl rfl rfl rfl rfl ⟨rfl,rfl,rfl,rfl,rfl⟩ rfl rfl rfl rfl rfl (by kernel_rfl) Tryz.func3 (by kernel_rfl)
  (of_decide_eq_true (by kernel_rfl)) (by unfold Func.isWrapper;first|(rw[if_pos (by decide+kernel)];kernel_rfl)|(rw[if_neg (by decide+kernel)];exact⟨rfl,rfl⟩))
  (fun os started H enc _ F=>by rw[OpenClaim.pre_eq_preRow];exact lifted os started H enc F)
theorem plain (f:FuncId) (fn:Func) (hf:Tryz.pinned.checked.prog.funcNamed "teasel/teasellaw16.StgMakes" =some f) (hfn:Tryz.pinned.checked.prog.funcs[f]? =some fn):
 true=Tryz.pinned.checked.prog.looks []∧∀ (j:Nat) t,fn.params[j]? =some t→Tryz.pinned.checked.prog.wantsStandIn t=false:=by
 obtain rfl:f=3:=Option.some.inj ((show Tryz.prog.funcNamed "teasel/teasellaw16.StgMakes" =some 3 by kernel_rfl).symm.trans hf)|>.symm
 obtain rfl:fn=Tryz.f3:=(Option.some.inj (Tryz.func3.symm.trans hfn)).symm
 refine⟨by kernel_rfl,fun j t ht=>?_⟩
 rw[Tryz.params3] at ht
 have hm:=Array.mem_of_getElem? ht
 have hm2:t=25:=by
  have h3:t=25:=by simpa using hm
  rcases h3 with rfl<;>simp
 subst hm2
 ·exact(show Tryz.prog.wantsStandIn 25=false by kernel_rfl)
theorem proved:Rows.StgMakesUptoCardSaid:=
 Claim7.holds_tied_plain_at .later [] _ _ _ _ said (fun _ h=>by cases h) (by kernel_rfl) (fun _ h=>by cases h) stgMakesUpto_row_tie rfl ⟨rfl,rfl⟩ (by kernel_rfl) rfl plain (by kernel_rfl)
end Go.Proofs.YtedejleokilohaaGreatDoor.stgMakes
end
namespace Go.Proofs.YtedejleokilohaaGreatDoor
open Go
end Go.Proofs.YtedejleokilohaaGreatDoor
