/- A part of the proof: SwP, SwQ, K1, S1, S2, S3, S4, U3, N3. Names and spaces are cut short by program. -/
import Derived.Test.YtehfihnfeakmaaaGreatDoorMk
import Derived.Lib.AtoiTie
import Derived.Lib.ItoaMem
set_option linter.unusedSimpArgs false
set_option linter.unusedVariables false
set_option maxRecDepth 10000
set_option maxHeartbeats 4000000
namespace Go.Proofs.YtehfihnfeakmaaaGreatDoor
open Go
section
def Dl (all:List Oper) (p:Env×List ax):List (Env×List ax)→Bool
 |[]=>false
 |q::r=>bif sg p.1 q.1 (dstsOf all)&&nU p.2 q.2 then true else Dl all p r
def mJ (all:List Oper):List (Env×List ax)→List (Env×List ax)→List (Env×List ax)
 |[],l2=>l2
 |p::r,l2=>bif Dl all p l2 then mJ all r l2 else mJ all r (p::l2)
def uS (all:List Oper) (f:Nat→Option (List (Env×List ax))):List Nat→Option (List (Env×List ax))
 |[]=>some []
 |j::js=>match f j with
  |some l1=>(match uS all f js with
   |some l2=>some (mJ all l1 l2)
   |none=>none)
  |none=>none
theorem As {all:List Oper} {p:Env×List ax}:∀ {l:List (Env×List ax)},Dl all p l=true→∃ q∈l,q.2=p.2∧∀ t∈dstsOf all,look p.1 t=look q.1 t
 |[],h=>by cases h
 |q::r,h=>by
  unfold Dl at h
  cases hb:(sg p.1 q.1 (dstsOf all)&&nU p.2 q.2) with
  |true=>
   rw[Bool.and_eq_true] at hb
   exact⟨q,List.mem_cons_self ..,(se hb.2).symm,pu hb.1⟩
  |false=>
   rw[hb,cond_false] at h
   obtain⟨q',h1,h2⟩:=As h
   exact⟨q',List.mem_cons_of_mem _ h1,h2⟩
theorem oJ {all:List Oper}:∀ (l1 l2:List (Env×List ax)),(∀ p∈l1,∃ q∈mJ all l1 l2,q.2=p.2∧∀ t∈dstsOf all,look p.1 t=look q.1 t)∧(∀ p∈l2,p∈mJ all l1 l2)∧(∀ q∈mJ all l1 l2,q∈l1∨q∈l2)
 |[],l2=>⟨fun p hp=>(by cases hp),fun p hp=>hp,fun q hq=> .inr hq⟩
 |p::r,l2=>by
  unfold mJ
  cases hb:Dl all p l2 with
  |true=>
   rw[cond_true]
   obtain⟨i1,i2,i3⟩:=oJ (all:=all) r l2
   refine⟨fun p' hp'=>?_,i2,fun q hq=>?_⟩
   ·rcases List.mem_cons.1 hp' with rfl|hp'
    ·obtain⟨q,h1,h2⟩:=As hb
     exact⟨q,i2 q h1,h2⟩
    ·exact i1 p' hp'
   ·rcases i3 q hq with h|h
    ·exact .inl (List.mem_cons_of_mem _ h)
    ·exact .inr h
  |false=>
   rw[cond_false]
   obtain⟨i1,i2,i3⟩:=oJ (all:=all) r (p::l2)
   refine⟨fun p' hp'=>?_,fun q hq=>i2 q (List.mem_cons_of_mem _ hq),fun q hq=>?_⟩
   ·rcases List.mem_cons.1 hp' with rfl|hp'
    ·exact⟨_,i2 _ (List.mem_cons_self ..),rfl,fun _ _=>rfl⟩
    ·exact i1 p' hp'
   ·rcases i3 q hq with h|h
    ·exact .inl (List.mem_cons_of_mem _ h)
    ·rcases List.mem_cons.1 h with rfl|h
     ·exact .inl (List.mem_cons_self ..)
     ·exact .inr h
theorem qF {all:List Oper} {f:Nat→Option (List (Env×List ax))}:∀ {l:List Nat} {L:List (Env×List ax)},uS all f l=some L→(∀ j∈l,∃ lj,f j=some lj∧∀ p∈lj,∃ q∈L,q.2=p.2∧∀ t∈dstsOf all,look p.1 t=look q.1 t)∧∀ q∈L,∃ j∈l,∃ lj,f j=some lj∧q∈lj
 |[],L,h=>by
  cases h
  exact⟨fun j hj=>(by cases hj),fun q hq=>(by cases hq)⟩
 |j::js,L,h=>by
  unfold uS at h
  split at h
  ·rename_i l1 hf
   split at h
   ·rename_i l2 hr
    cases h
    obtain⟨i1,i2⟩:=qF hr
    obtain⟨m1,m2,m3⟩:=oJ (all:=all) l1 l2
    refine⟨fun j' hj'=>?_,fun q hq=>?_⟩
    ·rcases List.mem_cons.1 hj' with rfl|hj'
     ·exact⟨l1,hf,m1⟩
     ·obtain⟨lj,e1,e2⟩:=i1 j' hj'
      refine⟨lj,e1,fun p hp=>?_⟩
      obtain⟨q,h1,h2⟩:=e2 p hp
      exact⟨q,m2 q h1,h2⟩
    ·rcases m3 q hq with h|h
     ·exact⟨j,List.mem_cons_self ..,l1,hf,h⟩
     ·obtain⟨j',h1,h2⟩:=i2 q h
      exact⟨j',List.mem_cons_of_mem _ h1,h2⟩
   ·cases h
  ·cases h
section
variable (call:RC) (G:Gl) (T:aT) (own:List Nat) (nt:Nat)
def nf (all:List Oper):Nat→Nat→List Nat→Env→List ax→Option (List (Env×List ax))
 |0,_,_,_,_=>none
 |n+1,m,ex,env,H=>
  bif Nat.ble all.length m then some [(env,H)] else
  bif eQ m ex then nf all n (m+1) ex env H else
  match yl own all m ex with
  |some o=>(match qg G T own all o env H with
   |some v=>nf all n (m+1) ex (cF o.dst v env) H
   |none=>none)
  |none=>match ec own m ex 0 all with
   |some i=>(match all[i]? with
    |some o=>(match qg G T own all o env H with
     |some v=>nf all n m (i::ex) (cF o.dst v env) H
     |none=>none)
    |none=>none)
   |none=>(match eI m ex 0 all with
    |[]=>none
    |js=>uS all (fun j=>match all[j]? with
     |some o=>(match Hp call G T own all o env H with
      |some (x,H')=>bif G5 G T own all (cF o.dst x env) H' (yB own all (cT (iT all) j) m++yA own all (cT (iT all) j) ex) then nf all n m (j::ex) (cF o.dst x env) H' else none
      |none=>none)
     |none=>none) js)
end
section
variable {P:Program} {G:Gl} {T:aT} {own:List Nat} {nt:Nat} {C:Cx} {call:RC} {ρ:Option Nat}
theorem ja (hc:uw P G call) {all:List Oper}:∀ (n m:Nat) (ex:List Nat) (env:Env) (H:List ax) {L:List (Env×List ax)},nf call G T own all n m ex env H=some L→(∃ N,eT P G T own all N m ex env H (fun e h=>∃ p∈L,h=p.2∧ij e p.1))∧∀ p∈L,∀ t,t∉dstsOf all→look p.1 t=look env t
 |0,m,ex,env,H,L,h=>by cases h
 |n+1,m,ex,env,H,L,h=>by
  unfold nf at h
  cases h1:Nat.ble all.length m with
  |true=>
   rw[h1,cond_true] at h
   cases h
   refine⟨⟨1,CV h1 ⟨_,List.mem_singleton.2 rfl,rfl,ij.refl _⟩⟩,fun p hp _ _=>?_⟩
   rw[List.mem_singleton.1 hp]
  |false=>
   rw[h1,cond_false] at h
   cases h2:eQ m ex with
   |true=>
    rw[h2,cond_true] at h
    obtain⟨⟨N,hN⟩,hl⟩:=ja hc n (m+1) ex env H h
    exact⟨⟨N,CU h2 hN⟩,hl⟩
   |false=>
    rw[h2,cond_false] at h
    split at h
    ·rename_i o hs
     split at h
     ·rename_i v hv
      obtain⟨⟨N,hN⟩,hl⟩:=ja hc n (m+1) ex _ H h
      obtain⟨g1,g2,g3,g4⟩:=sB hs
      refine⟨⟨N+1,fun L hL=>?_⟩,fun p hp t ht=>(hl p hp t ht).trans (lX g1 ht)⟩
      exact .inl ⟨m,_,v,g1,nK hL g2,g3,pI hL g4,hv,hN (m::L) (zX hL)⟩
     ·cases h
    ·split at h
     ·rename_i i hf
      split at h
      ·rename_i o ho
       split at h
       ·rename_i v hv
        obtain⟨⟨N,hN⟩,hl⟩:=ja hc n m (i::ex) _ H h
        refine⟨⟨N+1,fun L hL=>?_⟩,fun p hp t ht=>(hl p hp t ht).trans (lX ho ht)⟩
        obtain⟨k,o',g1,g2,g3,g4,g5⟩:=jW hf
        rw[Nat.zero_add] at g1
        subst g1
        rw[ho] at g2
        cases g2
        exact .inl ⟨i,_,v,ho,zz hL g3,g4,pI hL g5,hv,hN (i::L) (yF hL i)⟩
       ·cases h
      ·cases h
     ·rename_i hf
      split at h
      ·cases h
      ·rename_i js hne
       obtain⟨hall,hback⟩:=qF h
       have open_:∀ {j:Nat} {lj:List (Env×List ax)},(match all[j]? with
        |some o=>(match Hp call G T own all o env H with
         |some (x,H')=>bif G5 G T own all (cF o.dst x env) H' (yB own all (cT (iT all) j) m++yA own all (cT (iT all) j) ex) then nf call G T own all n m (j::ex) (cF o.dst x env) H' else none
         |none=>none)
        |none=>none)=some lj→∃ o x H1,all[j]? =some o∧Hp call G T own all o env H=some (x,H1)∧G5 G T own all (cF o.dst x env) H1 (yB own all (cT (iT all) j) m++yA own all (cT (iT all) j) ex)=true∧nf call G T own all n m (j::ex) (cF o.dst x env) H1=some lj:=by
        intro j lj hfj
        split at hfj
        ·rename_i o ho
         split at hfj
         ·rename_i x H1 hg
          cases hb:G5 G T own all (cF o.dst x env) H1 (yB own all (cT (iT all) j) m++yA own all (cT (iT all) j) ex) with
          |false=>rw[hb] at hfj;cases hfj
          |true=>rw[hb,cond_true] at hfj;exact⟨o,x,H1,ho,hg,hb,hfj⟩
         ·cases hfj
        ·cases hfj
       have hrest:∀ p∈L,∀ t,t∉dstsOf all→look p.1 t=look env t:=by
        intro p hp t ht
        obtain⟨j,hj,lj,e1,e2⟩:=hback p hp
        obtain⟨o,x,H1,ho,hg,hb,he⟩:=open_ e1
        exact((ja hc n m (j::ex) _ H1 he).2 p e2 t ht).trans (lX ho ht)
       obtain⟨N,hN⟩:=common (P:=fun N j=>∃ o,all[j]? =some o∧kz P G T own all o env H fun x H1=>uu G T own all j m ex (cF o.dst x env) H1∧(eT P G T own all) N m (j::ex) (cF o.dst x env) H1 (fun e h=>∃ p∈L,h=p.2∧ij e p.1))
        (fun j n n' hn ⟨o,ho,hx⟩=>⟨o,ho,jc (fun x H1 hh=>⟨hh.1,eT.le hn hh.2⟩) hx⟩) (eI m ex 0 all) (fun j hj=>by
         obtain⟨lj,e1,e2⟩:=hall j hj
         obtain⟨o,x,H1,ho,hg,hb,he⟩:=open_ e1
         obtain⟨⟨N,hN⟩,hl2⟩:=ja hc n m (j::ex) _ H1 he
         refine⟨N,o,ho,Ft hc hg ⟨Cm hb,eT.GS (fun e h hh=>?_) hN⟩⟩
         obtain⟨p,hp,h3,h4⟩:=hh
         obtain⟨q,hq,h5,h6⟩:=e2 p hp
         refine⟨q,hq,h3.trans h5.symm,h4.trans fun t=>?_⟩
         by_cases ht:t∈dstsOf all
         ·exact h6 t ht
         ·rw[hl2 p hp t ht,lX ho ht,hrest q hq t ht])
       cases hr:eI m ex 0 all with
       |nil=>exact(hne hr).elim
       |cons j0 js0=>
        rw[hr] at hN
        exact⟨⟨N+1,rz hf hr hN⟩,hrest⟩
end
def Bo (id:Nat):List Nat→Nat→Option Nat
 |[],_=>none
 |k::r,i=>bif Nat.beq k id then some i else Bo id r (i+1)
theorem nu {id:Nat}:∀ {ks:List Nat} {i j:Nat},Bo id ks i=some j→∃ k,j=i+k∧ks[k]? =some id
 |[],i,j,h=>by cases h
 |k::r,i,j,h=>by
  unfold Bo at h
  cases hb:Nat.beq k id with
  |true=>rw[hb] at h;cases h;exact⟨0,rfl,by rw[Nat.eq_of_beq_eq_true hb];rfl⟩
  |false=>
   rw[hb,cond_false] at h
   obtain⟨m,h1,h2⟩:=nu h
   exact⟨m+1,by omega,h2⟩
def rT (H:List ax) (n:Nat) (ks:List Nat):Nat→SV→Option SV
 |0,_=>none
 |d+1,x=>bif x.under n then some x else match x with
  | .agg fs=>(match gO (rT H n ks d) fs with
   |some ys=>some (.agg ys)
   |none=>none)
  | .tuple fs=>(match gO (rT H n ks d) fs with
   |some ys=>some (.tuple ys)
   |none=>none)
  | .list sz fs=>(match gO (rT H n ks d) fs with
   |some ys=>some (.list sz ys)
   |none=>none)
  | .fn f xs ys=>(match gO (rT H n ks d) xs with
   |some us=>(match gO (rT H n ks d) ys with
    |some vs=>some (.fn f us vs)
    |none=>none)
   |none=>none)
  | .sl id g off len=>(match Bo id ks 0 with
   |some i=>(match H[id]? with
    |some (.cells g' sz vals)=>bif Nat.beq g g' then some (.sl (n+i) 0 off len) else none
    |_=>none)
   |none=>none)
  | .ptr id g j o=>(match Bo id ks 0 with
   |some i=>(match H[id]? with
    |some (.cells g' sz vals)=>bif Nat.beq g g' then some (.ptr (n+i) 0 j o) else none
    |_=>none)
   |none=>none)
  | .map id=>(match Bo id ks 0 with
   |some i=>(match H[id]? with
    |some (.map kd es)=>some (.map (n+i))
    |_=>none)
   |none=>none)
  |_=>none
def gd (ks:List Nat):dD:=ks.map fun id=>(id,0)
theorem fG {H:List ax} {n:Nat} {ks:dD} {f:SV→Option SV} (hf:∀ x y,f x=some y→bE H n ks x y):∀ {xs ys:List SV},gO f xs=some ys→cQ H n ks xs ys
 |[],ys,h=>by cases h;exact .nil
 |x::r,ys,h=>by
  unfold gO at h
  split at h
  ·rename_i y hy
   split at h
   ·rename_i zs hzs
    cases h
    exact .cons _ _ _ _ (hf _ _ hy) (fG hf hzs)
   ·cases h
  ·cases h
theorem mI {ks:List Nat} {i id:Nat} (h:ks[i]? =some id):(gd ks)[i]? =some (id,0):=by
 unfold gd
 rw[List.getElem?_map,h];rfl
theorem iF {H:List ax} {n:Nat} {ks:List Nat}:∀ (d:Nat) (x y:SV),rT H n ks d x=some y→bE H n (gd ks) x y
 |0,x,y,h=>by cases h
 |d+1,x,y,h=>by
  unfold rT at h
  cases hu:x.under n with
  |true=>rw[hu,cond_true] at h;cases h;exact .same _ hu
  |false=>
   rw[hu,cond_false] at h
   cases x with
   |agg fs=>
    simp only at h
    split at h
    ·rename_i ys hy;cases h;exact .agg _ _ (fG (iF d) hy)
    ·cases h
   |tuple fs=>
    simp only at h
    split at h
    ·rename_i ys hy;cases h;exact .tuple _ _ (fG (iF d) hy)
    ·cases h
   |list sz fs=>
    simp only at h
    split at h
    ·rename_i ys hy;cases h;exact .list _ _ _ (fG (iF d) hy)
    ·cases h
   |fn f xs ys=>
    simp only at h
    split at h
    ·rename_i us hus
     split at h
     ·rename_i vs hvs;cases h;exact .fn _ _ _ _ _ (fG (iF d) hus) (fG (iF d) hvs)
     ·cases h
    ·cases h
   |sl id g off len=>
    simp only at h
    split at h
    ·rename_i i hi
     obtain⟨k,rfl,hk⟩:=nu hi
     split at h
     ·rename_i g' sz vals hH
      cases hg:Nat.beq g g' with
      |false=>rw[hg] at h;cases h
      |true=>
       rw[hg,cond_true] at h
       cases h
       have hg:=Nat.eq_of_beq_eq_true hg
       subst hg
       have:=bE.Dz (H:=H) (n:=n) (ks:=gd ks) k id 0 g off len sz vals (mI hk) hH (Nat.zero_le _)
       simpa using this
     ·cases h
    ·cases h
   |ptr id g j o=>
    simp only at h
    split at h
    ·rename_i i hi
     obtain⟨k,rfl,hk⟩:=nu hi
     split at h
     ·rename_i g' sz vals hH
      cases hg:Nat.beq g g' with
      |false=>rw[hg] at h;cases h
      |true=>
       rw[hg,cond_true] at h
       cases h
       have hg:=Nat.eq_of_beq_eq_true hg
       subst hg
       have:=bE.Az (H:=H) (n:=n) (ks:=gd ks) k id 0 g j o sz vals (mI hk) hH (Nat.zero_le _)
       simpa using this
     ·cases h
    ·cases h
   |map id=>
    simp only at h
    split at h
    ·rename_i i hi
     obtain⟨k,rfl,hk⟩:=nu hi
     split at h
     ·rename_i kd es hH
      cases h
      have:=bE.Ay (H:=H) (n:=n) (ks:=gd ks) k id 0 kd es (mI hk) hH
      simpa using this
     ·cases h
    ·cases h
   |_=>cases h
def zm (f:SV→List Nat):List SV→List Nat
 |[]=>[]
 |x::r=>f x++zm f r
def xp (n:Nat):Nat→SV→List Nat
 |0,_=>[]
 |d+1,x=>match x with
  | .agg fs=>zm (xp n d) fs
  | .tuple fs=>zm (xp n d) fs
  | .list _ fs=>zm (xp n d) fs
  | .fn _ xs ys=>zm (xp n d) xs++zm (xp n d) ys
  | .sl id _ _ _=>bif Nat.ble n id then [id] else []
  | .ptr id _ _ _=>bif Nat.ble n id then [id] else []
  | .map id=>bif Nat.ble n id then [id] else []
  |_=>[]
def Cl:List Nat→List Nat→List Nat
 |ks,[]=>ks
 |ks,x::r=>bif eQ x ks then Cl ks r else Cl (ks++[x]) r
def HD (n:Nat) (H:List ax):List Nat→List Nat
 |[]=>[]
 |id::r=>(match H[id]? with
  |some (.cells _ _ vals)=>zm (xp n 8) vals
  |some (.map _ es)=>es.foldr (fun p l=>xp n 8 p.2++l) []
  |_=>[])++HD n H r
def DT:List Nat→Bool
 |[]=>true
 |k::r=>bif eQ k r then false else DT r
theorem AI:∀ {ks:List Nat},DT ks=true→ks.Nodup
 |[],_=>List.nodup_nil
 |k::r,h=>by
  unfold DT at h
  cases hb:eQ k r with
  |true=>rw[hb] at h;cases h
  |false=>
   rw[hb,cond_false] at h
   refine List.nodup_cons.2 ⟨fun hm=>?_,AI h⟩
   rw[c8.2 hm] at hb
   cases hb
def Gf (f:SV→Option SV) (n:Nat):List (SV×SV)→Option (List (SV×SV))
 |[]=>some []
 |(k,x)::r=>bif k.under n then (match f x with
  |some y=>(match Gf f n r with
   |some r'=>some ((k,y)::r')
   |none=>none)
  |none=>none) else none
theorem AP {H:List ax} {n:Nat} {ks:dD} {f:SV→Option SV} (hf:∀ x y,f x=some y→bE H n ks x y):∀ {es fs:List (SV×SV)},Gf f n es=some fs→iU H n ks es fs
 |[],fs,h=>by cases h;exact .nil
 |(k,x)::r,fs,h=>by
  unfold Gf at h
  cases hk:k.under n with
  |false=>rw[hk] at h;cases h
  |true=>
   rw[hk,cond_true] at h
   split at h
   ·rename_i y hy
    split at h
    ·rename_i r' hr;cases h;exact .cons _ _ _ _ _ hk (hf _ _ hy) (AP hf hr)
    ·cases h
   ·cases h
def rp (H:List ax) (n:Nat) (ks:List Nat):List Nat→Option (List ax)
 |[]=>some []
 |id::r=>bif Nat.ble n id then (match H[id]? with
  |some (.cells _ sz vals)=>(match gO (rT H n ks 12) vals with
   |some ys=>(match rp H n ks r with
    |some bs=>some (.cells 0 sz ys::bs)
    |none=>none)
   |none=>none)
  |some (.map kd es)=>(match Gf (rT H n ks 12) n es with
   |some fs=>(match rp H n ks r with
    |some bs=>some (.map kd fs::bs)
    |none=>none)
   |none=>none)
  |_=>none) else none
theorem oF {H:List ax} {n:Nat} {ks:List Nat}:∀ {r:List Nat} {bs:List ax},rp H n ks r=some bs→dx H n (gd ks) (gd r) bs
 |[],bs,h=>by cases h;exact .nil
 |id::r,bs,h=>by
  unfold rp at h
  cases hn:Nat.ble n id with
  |false=>rw[hn] at h;cases h
  |true=>
   rw[hn,cond_true] at h
   have hn:=Nat.le_of_ble_eq_true hn
   split at h
   ·rename_i g sz vals hH
    split at h
    ·rename_i ys hy
     split at h
     ·rename_i bs' hb;cases h;exact .cells id 0 _ _ _ _ _ _ hH hn (Nat.zero_le _) (fG (iF 12) (by rw[List.drop_zero];exact hy)) (oF hb)
     ·cases h
    ·cases h
   ·rename_i kd es hH
    split at h
    ·rename_i fs hf
     split at h
     ·rename_i bs' hb;cases h;exact .map id _ _ _ _ _ hH hn (AP (iF 12) hf) (oF hb)
     ·cases h
    ·cases h
   ·cases h
def zf (f:SV→Option SV) (env:Env):List Nat→Env
 |[]=>[]
 |t::r=>match mi env t with
  |some x=>(match f x with
   |some y=>(t,y)::zf f env r
   |none=>zf f env r)
  |none=>zf f env r
def iJ (n:Nat) (ts:List Nat) (seen:List Nat):Env→Env
 |[]=>[]
 |(t,x)::r=>bif eQ t ts||eQ t seen then iJ n ts seen r else bif x.under n then (t,x)::iJ n ts (t::seen) r else iJ n ts (t::seen) r
theorem pJ {H:List ax} {n:Nat} {ks:dD} {f:SV→Option SV} (hf:∀ x y,f x=some y→bE H n ks x y) {env:Env}:∀ (ts:List Nat),∀ p∈zf f env ts,∃ x,look env p.1=some x∧bE H n ks x p.2
 |[],p,hp=>by cases hp
 |t::r,p,hp=>by
  unfold zf at hp
  split at hp
  ·rename_i x hx
   rw[fx] at hx
   split at hp
   ·rename_i y hy
    rcases List.mem_cons.1 hp with rfl|hp
    ·exact⟨x,hx,hf _ _ hy⟩
    ·exact pJ hf r p hp
   ·exact pJ hf r p hp
  ·exact pJ hf r p hp
theorem na {n:Nat} {ts:List Nat}:∀ (env:Env) (seen:List Nat),∀ p∈iJ n ts seen env,p.1∉seen∧look env p.1=some p.2∧p.2.under n=true
 |[],seen,p,hp=>by cases hp
 |(t,x)::r,seen,p,hp=>by
  unfold iJ at hp
  have step:∀ (seen':List Nat),(∀ s,s∈seen→s∈seen')→(t∈ts∨t∈seen')→p∈iJ n ts seen' r→(p.1≠t)→p.1∉seen∧look ((t,x)::r) p.1=some p.2∧p.2.under n=true:=by
   intro seen' h1 h2 h3 h4
   obtain⟨g1,g2,g3⟩:=na r seen' p h3
   refine⟨fun h=>g1 (h1 _ h),?_,g3⟩
   unfold look
   rw[if_neg h4]
   exact g2
  cases hb:(eQ t ts||eQ t seen) with
  |true=>
   rw[hb,cond_true] at hp
   rw[Bool.or_eq_true] at hb
   have hne:p.1≠t:=by
    intro e
    obtain⟨g1,g2,g3⟩:=na r seen p hp
    have hts:p.1∉ts:=envR_ts r seen p hp
    rcases hb with hb|hb
    ·exact hts (e ▸ c8.1 hb)
    ·exact g1 (e ▸ c8.1 hb)
   exact step seen (fun s h=>h) (by rcases hb with hb|hb;exact .inl (c8.1 hb);exact .inr (c8.1 hb)) hp hne
  |false=>
   rw[hb,cond_false] at hp
   rw[Bool.or_eq_false_iff] at hb
   have hts:t∉seen:=fun h=>by rw[c8.2 h] at hb;cases hb.2
   cases hu:x.under n with
   |true=>
    rw[hu,cond_true] at hp
    rcases List.mem_cons.1 hp with rfl|hp
    ·refine⟨hts,?_,hu⟩
     unfold look
     rw[if_pos rfl]
    ·have hne:p.1≠t:=fun e=>(na r (t::seen) p hp).1 (e ▸ List.mem_cons_self ..)
     exact step (t::seen) (fun s h=>List.mem_cons_of_mem _ h) (.inr (List.mem_cons_self ..)) hp hne
   |false=>
    rw[hu,cond_false] at hp
    have hne:p.1≠t:=fun e=>(na r (t::seen) p hp).1 (e ▸ List.mem_cons_self ..)
    exact step (t::seen) (fun s h=>List.mem_cons_of_mem _ h) (.inr (List.mem_cons_self ..)) hp hne
where
 envR_ts {n:Nat} {ts:List Nat}:∀ (env:Env) (seen:List Nat),∀ p∈iJ n ts seen env,p.1∉ts
 |[],seen,p,hp=>by cases hp
 |(t,x)::r,seen,p,hp=>by
  unfold iJ at hp
  cases hb:(eQ t ts||eQ t seen) with
  |true=>rw[hb,cond_true] at hp;exact envR_ts r seen p hp
  |false=>
   rw[hb,cond_false] at hp
   rw[Bool.or_eq_false_iff] at hb
   cases hu:x.under n with
   |true=>
    rw[hu,cond_true] at hp
    rcases List.mem_cons.1 hp with rfl|hp
    ·intro h;rw[c8.2 h] at hb;cases hb.1
    ·exact envR_ts r _ p hp
   |false=>rw[hu,cond_false] at hp;exact envR_ts r _ p hp
theorem sD {H:List ax} {n:Nat} {ks:dD} {env:Env}:∀ {env2:Env},(∀ p∈env2,∃ x,look env p.1=some x∧bE H n ks x p.2)→gz H n ks env2 env
 |[],_=>trivial
 |(t,y)::r,h=>⟨h (t,y) (List.mem_cons_self ..),sD fun p hp=>h p (List.mem_cons_of_mem _ hp)⟩
def DR (n:Nat) (env:Env):List Nat→List Nat
 |[]=>[]
 |t::r=>(match mi env t with
  |some x=>xp n 8 x
  |none=>[])++DR n env r
def IU (n:Nat) (ts:List Nat) (env:Env) (H:List ax):List Nat:=
 let k0:=Cl [] (DR n env ts)
 let k1:=Cl k0 (HD n H k0)
 Cl k1 (HD n H k1)
def yL (n:Nat) (ts ks:List Nat) (env:Env) (H:List ax):Option (Env×List ax):=
 bif Nat.ble n H.length&&(H.take n).all (·.oV n)&&DT ks then (match rp H n ks ks with
  |some KB=>some (zf (rT H n ks 12) env ts++iJ n ts [] env,H.take n++KB)
  |none=>none) else none
def yM (n:Nat) (ts:List Nat) (p:Env×List ax):Option (Env×List ax):=yL n ts (IU n ts p.1 p.2) p.1 p.2
theorem td {G:Gl} {nt:Nat} {C:Cx} {n:Nat} {ts ks:List Nat} {env:Env} {H:List ax} {q:Env×List ax} (hG:au G) (hB:eS G n) (hC:C.H.length≤n) (h:yL n ts ks env H=some q):Wk G nt C ⟨env,H⟩ ⟨q.1,q.2⟩:=by
 unfold yL at h
 cases hb:(Nat.ble n H.length&&(H.take n).all (·.oV n)&&DT ks) with
 |false=>rw[hb] at h;cases h
 |true=>
  rw[hb,cond_true] at h
  simp only[Bool.and_eq_true] at hb
  obtain⟨⟨h1,h2⟩,h3⟩:=hb
  split at h
  ·rename_i KB hk
   cases h
   have hlen:(H.take n).length=n:=by rw[List.length_take];exact Nat.min_eq_left (Nat.le_of_ble_eq_true h1)
   have hcl:closed (H.take n):=fun B hB=>by rw[hlen];exact ax.n6 (List.all_eq_true.1 h2 B hB)
   have hsplit:H.take n++H.drop n=H:=List.take_append_drop ..
   have hk':=oF hk
   have hnd:((gd ks).map (·.1)).Nodup:=by
    have:(gd ks).map (·.1)=ks:=by simp[gd,List.map_map,Function.comp_def]
    rw[this];exact AI h3
   have key:Wk G nt C ⟨env,H.take n++H.drop n⟩ ⟨zf (rT H n ks 12) env ts++iJ n ts [] env,H.take n++KB⟩:=by
    refine Wk.iN (gd ks) KB hG (by rw[hlen];exact hB) (by rw[hlen];exact hC) hcl ⟨by rw[hlen,hsplit];exact hk',hnd⟩ ?_
    rw[hlen,hsplit]
    refine sD fun p hp=>?_
    rcases List.mem_append.1 hp with hp|hp
    ·exact pJ (iF 12) ts p hp
    ·obtain⟨_,g2,g3⟩:=na env [] p hp
     exact⟨_,g2,.same _ g3⟩
   rwa[hsplit] at key
  ·cases h
def j9:Env→Env→Bool
 |[],ys=>(match ys with|[]=>true|_=>false)
 |(t,x)::r,ys=>(match ys with|(s,y)::r'=>Nat.beq t s&&SV.same x y&&j9 r r'|[]=>false)
theorem sc:∀ {a b:Env},j9 a b=true→a=b
 |[],b,h=>by cases b with
  |nil=>rfl
  |cons=>simp[j9] at h
 |(t,x)::r,b,h=>by cases b with
  |nil=>simp[j9] at h
  |cons p r'=>
   obtain⟨s,y⟩:=p
   simp only[j9,Bool.and_eq_true] at h
   rw[Nat.eq_of_beq_eq_true h.1.1,SV.dT.1 _ _ h.1.2,sc h.2]
def mV (n:Nat) (ts:List Nat) (q:Env×List ax):List (Env×List ax)→Bool
 |[]=>true
 |p::r=>match yM n ts p with
  |some q'=>bif j9 q.1 q'.1&&nU q.2 q'.2 then mV n ts q r else false
  |none=>false
theorem qe {n:Nat} {ts:List Nat} {q:Env×List ax}:∀ {l:List (Env×List ax)},mV n ts q l=true→∀ p∈l,yM n ts p=some q
 |p::r,h,p',hp'=>by
  unfold mV at h
  split at h
  ·rename_i q' hq
   cases hb:(j9 q.1 q'.1&&nU q.2 q'.2) with
   |false=>rw[hb] at h;cases h
   |true=>
    rw[hb,cond_true] at h
    rw[Bool.and_eq_true] at hb
    rcases List.mem_cons.1 hp' with rfl|hp'
    ·rw[hq]
     obtain⟨a,b⟩:=q
     obtain⟨c,d⟩:=q'
     have e1:=sc hb.1
     have e2:=se hb.2
     simp only at e1 e2
     rw[e1,e2]
    ·exact qe h p' hp'
  ·cases h
def oneOf (n:Nat) (ts:List Nat):List (Env×List ax)→Option (Env×List ax)
 |[]=>none
 |p::r=>match r with
  |[]=>some p
  |_=>(match yM n ts p with
   |some q=>bif mV n ts q r then some q else none
   |none=>none)
theorem D5 {G:Gl} {nt:Nat} {C:Cx} {n:Nat} {ts:List Nat} {L:List (Env×List ax)} {q:Env×List ax} (hG:au G) (hB:eS G n) (hC:C.H.length≤n) (h:oneOf n ts L=some q):∀ p∈L,Wk G nt C ⟨p.1,p.2⟩ ⟨q.1,q.2⟩:=by
 unfold oneOf at h
 split at h
 ·cases h
 ·rename_i p r
  split at h
  ·cases h
   intro p' hp'
   rw[List.mem_singleton.1 hp']
   exact Wk.refl _
  ·split at h
   ·rename_i q' hq
    cases hb:mV n ts q' r with
    |false=>rw[hb] at h;cases h
    |true=>
     rw[hb,cond_true] at h
     cases h
     intro p' hp'
     rcases List.mem_cons.1 hp' with rfl|hp'
     ·exact td hG hB hC hq
     ·exact td hG hB hC (qe hb p' hp')
   ·cases h
end
section
section
variable (call:RC) (G:Gl) (T:aT) (own:List Nat) (nt:Nat)
def nc:Nat→Code→Env→List ax→Option (Exit×Env×List ax)
 |0,_,_,_=>none
 |n+1,cd,env,H=>match cd with
  | .skip=>some (.normal,env,H)
  | .label _=>some (.normal,env,H)
  | .ret=>some (.ret,env,H)
  | .exit id=>some (.exit id,env,H)
  | .cond x p q=>(match Nh G env x with
   |some (.bool true)=>nc n p env H
   |some (.bool false)=>nc n q env H
   |_=>none)
  | .seq x y=>(match nc n x env H with
   |some (.normal,env',H')=>nc n y env' H'
   |r=>r)
  | .block id x=>(match nc n x env H with
   |some (.exit id',env',H')=>if id'=id then some (.normal,env',H') else some (.exit id',env',H')
   |r=>r)
  | .loop x=>(match nc n x env H with
   |some (.normal,env',H')=>nc n (.loop x) (Ii [] env') H'
   |r=>r)
  | .region _ ops false=>(match Ao call G T own nt ops.toList ops.toList env H with
   |some (env',H')=>some (.normal,env',H')
   |none=>none)
  | .region _ ops true=>bif ea nt ops.toList then (match nf call G T own ops.toList 300 0 [] env H with
   |some L=>(match oneOf H.length (dstsOf ops.toList) L with
    |some p=>some (.normal,p.1,p.2)
    |none=>none)
   |none=>none) else none
  |_=>none
end
section
variable {P:Program} {G:Gl} {T:aT} {own:List Nat} {nt:Nat} {C:Cx} {call:RC} {ρ:Option Nat}
theorem An (hG:au G) (hB:eS G C.H.length) (hT:aq P T) (hm:P.follows .mixedOrders=true) (hc:uw P G call):∀ (N n:Nat),n≤N→∀ (cd:Code) (env:Env) (H:List ax) (e:Exit) (env':Env) (H':List ax),nc call G T own nt n cd env H=some (e,env',H')→
 dV P G nt ρ C cd (fun e2 s=>e2=e∧s.H=H'∧ij s.env env') ⟨env,H⟩:=by
 intro N
 induction N with
 |zero=>
  intro n hn cd env H e env' H' h
  obtain rfl:n=0:=by omega
  cases h
 |succ N ih=>
  intro n hn cd env H e env' H' h
  cases n with
  |zero=>cases h
  |succ n=>
  have hn:n≤N:=by omega
  have ihn:=ih n hn
  unfold nc at h
  split at h
  ·cases h;exact dV.skip ⟨rfl,rfl,ij.refl _⟩
  ·cases h;exact fun c a hc hi hg=>wpIn_label ⟨_,c,⟨rfl,rfl,ij.refl _⟩,hc,rfl,hi,hg⟩
  ·cases h;exact dV.ret ⟨rfl,rfl,ij.refl _⟩
  ·cases h;exact dV.exit ⟨rfl,rfl,ij.refl _⟩
  ·rename_i x p q
   split at h
   ·rename_i hv
    rw[C2] at hv
    refine dV.cond ⟨_,hv,true,rfl,?_⟩
    exact⟨fun _=>ihn _ _ _ _ _ _ h,fun e=>(by cases e)⟩
   ·rename_i hv
    rw[C2] at hv
    refine dV.cond ⟨_,hv,false,rfl,?_⟩
    exact⟨fun e=>(by cases e),fun _=>ihn _ _ _ _ _ _ h⟩
   ·cases h
  ·rename_i x y
   split at h
   ·rename_i env1 H1 h1
    refine dV.seq (dV.mono (ihn _ _ _ _ _ _ h1) ?_)
    rintro e2 ⟨envx,Hx⟩ ⟨rfl,rfl,he⟩
    simp only at he
    exact dV.wk (Wk.env fun t x hx=>(he t).trans hx) (ihn _ _ _ _ _ _ h)
   ·rename_i r hr
    refine dV.seq (dV.mono (ihn _ _ _ _ _ _ h) ?_)
    rintro e2 ⟨envx,Hx⟩ ⟨rfl,rfl,he⟩
    simp only at he
    cases e2 with
    |normal=>exact(hr _ _ h).elim
    |_=>exact⟨rfl,rfl,he⟩
  ·rename_i id x
   split at h
   ·rename_i id' env1 H1 h1
    refine dV.block (dV.mono (ihn _ _ _ _ _ _ h1) ?_)
    rintro e2 ⟨envx,Hx⟩ ⟨rfl,rfl,he⟩
    simp only at he
    by_cases hid:id'=id
    ·rw[if_pos hid] at h
     cases h
     simp only[hid,if_true]
     exact⟨trivial,trivial,he⟩
    ·rw[if_neg hid] at h
     cases h
     simp only[hid,if_false]
     exact⟨trivial,trivial,he⟩
   ·rename_i r hr
    refine dV.block (dV.mono (ihn _ _ _ _ _ _ h) ?_)
    rintro e2 ⟨envx,Hx⟩ ⟨rfl,rfl,he⟩
    simp only at he
    cases e2 with
    |exit id'=>exact(hr _ _ _ h).elim
    |_=>exact⟨rfl,rfl,he⟩
  ·rename_i x
   have h0:nc call G T own nt (n+1) (.loop x) env H=some (e,env',H'):=by unfold nc;exact h
   refine dV.GR (fun m s=>m≤n∧nc call G T own nt (m+1) (.loop x) s.env s.H=some (e,env',H')) n ⟨env,H⟩ (Wk.env fun t x hx=>hx) ⟨Nat.le_refl _,h0⟩ ?_
   rintro m ⟨env0,H0⟩ ⟨hmn,hr⟩
   unfold nc at hr
   simp only at hr
   split at hr
   ·rename_i env1 H1 h1
    refine dV.mono (ih m (by omega) _ _ _ _ _ _ h1) ?_
    rintro e2 ⟨envx,Hx⟩ ⟨rfl,rfl,he⟩
    simp only at he
    cases m with
    |zero=>cases h1
    |succ m=>exact⟨m,⟨Ii [] env1,_⟩,by omega,Wk.env (fun t x hx=>(he t).trans (qC _ _ _ _ hx).2),by omega,hr⟩
   ·rename_i r hr2
    refine dV.mono (ih m (by omega) _ _ _ _ _ _ hr) ?_
    rintro e2 ⟨envx,Hx⟩ ⟨rfl,rfl,he⟩
    simp only at he
    cases e2 with
    |normal=>exact(hr2 _ _ hr).elim
    |_=>exact⟨rfl,rfl,he⟩
  ·rename_i ops
   split at h
   ·rename_i env1 H1 h1
    cases h
    exact dV.region hT (w8 hc _ h1 ⟨rfl,rfl,ij.refl _⟩)
   ·cases h
  ·rename_i ops
   cases hd:ea nt ops.toList with
   |false=>rw[hd] at h;cases h
   |true=>
    rw[hd,cond_true] at h
    split at h
    ·rename_i L h1
     split at h
     ·rename_i p ho
      cases h
      obtain⟨⟨N2,hN⟩,_⟩:=ja (P:=P) hc _ _ _ _ _ h1
      intro c0 a0 hc0 hi0 hg0
      have hle:C.H.length≤H.length:=by
       have:=Grow.length hg0
       rw[hc0] at this
       exact this
      have hone:=D5 (nt:=nt) (C:=C) hG (fun C0 h0=>Nat.le_trans (hB C0 h0) hle) hle ho
      refine dV.GU (Q:=fun e2 s=>e2=Exit.normal∧∃ q∈L,s.H=q.2∧ij s.env q.1) (dV.draw hT hm hd (eT.GS (fun e h hh=>⟨rfl,hh⟩) hN [] (fun i=>by simp[LP,eQ,Nat.blt_eq]))) ?_ c0 a0 hc0 hi0 hg0
      rintro e2 ⟨envx,Hx⟩ ⟨rfl,q,hq,rfl,he⟩
      exact⟨⟨p.1,p.2⟩,Wk.trans (Wk.env fun t x hx=>(he t).trans hx) (hone q hq),rfl,rfl,ij.refl _⟩
     ·cases h
    ·cases h
  ·cases h
end
section
variable (P:Program) (G:Gl) (T:aT) (ow:FuncId→List Nat) (gc:FuncId→Bool) (ov:RC) (fuel:Nat)
def uW:Nat→RC
 |0=>fun _ _ _=>none
 |d+1=>fun f args H=>match ov f args H with
  |some r=>some r
  |none=>match P.funcs[f]? with
   |some fn=>(match fn.body with
    |some cd=>bif Nat.ble args.length fn.ntmps then (match nc (uW d) G T (ow f) fn.ntmps fuel cd (ap args 0) H with
     |some (e,env,H')=>(match e with
      | .ret=>ob (hZ T env H' fn.results.toList) fun xs=>some (bif gc f then Im H.length (bq xs) H' else (bq xs,H'))
      | .normal=>ob (hZ T env H' fn.results.toList) fun xs=>some (bif gc f then Im H.length (bq xs) H' else (bq xs,H'))
      |_=>none)
     |none=>none) else none
    |none=>none)
   |none=>none
end
theorem pM {P:Program} {G:Gl} {T:aT} {ow:FuncId→List Nat} {gc:FuncId→Bool} {ov:RC} {fuel:Nat} (hG:au G) (ho:uw P G ov) (hT:aq P T) (hm:P.follows .mixedOrders=true) (hn:∀ (f:FuncId) (fn:Func),P.funcs[f]? =some fn→(fn.name== "runtime.NumGoroutine")=false):∀ d,uw P G (uW P G T ow gc ov fuel d)
 |0=>fun f xs H x H' h=>by cases h
 |d+1=>fun f args H x H' h=>by
  unfold uW at h
  split at h
  ·rename_i r hr
   cases h
   exact ho _ _ _ _ _ hr
  split at h
  ·rename_i fn hf
   split at h
   ·rename_i cd hb
    cases hl:Nat.ble args.length fn.ntmps with
    |false=>rw[hl] at h;cases h
    |true=>
     rw[hl,cond_true] at h
     refine af.D1 hT hf hb (hn f fn hf) rfl (Nat.le_of_ble_eq_true hl) rfl fun C h1 h2 h3=>?_
     have hfin:∀ (xs:List SV) (H1:List ax),(bif gc f then Im H.length (bq xs) H1 else (bq xs,H1))=(x,H')→Fin C H1 (bq xs) (fun r H2=>H2=H'∧r=x):=by
      intro xs H1 hx
      cases hg:gc f with
      |true=>
       rw[hg,cond_true] at hx
       have:=Fv (C:=C) (H':=H1) (x:=bq xs) (n0:=H.length) (by rw[h1])
       rw[hx] at this
       exact this
      |false=>
       rw[hg,cond_false] at hx
       cases hx
       exact Fin.same ⟨rfl,rfl⟩
     split at h
     ·rename_i e env1 H1 hr
      split at h
      ·obtain⟨xs,hx,h⟩:=aJ h
       refine dV.mono (An hG (by rw[h1];rw[h1] at h3;exact h3) hT hm (pM hG ho hT hm hn d) _ _ (Nat.le_refl _) _ _ _ _ _ _ hr) ?_
       rintro e2 ⟨envx,Hx⟩ ⟨rfl,rfl,he⟩
       exact⟨xs,(jE he).trans hx,hfin _ _ (Option.some.inj h)⟩
      ·obtain⟨xs,hx,h⟩:=aJ h
       refine dV.mono (An hG (by rw[h1];rw[h1] at h3;exact h3) hT hm (pM hG ho hT hm hn d) _ _ (Nat.le_refl _) _ _ _ _ _ _ hr) ?_
       rintro e2 ⟨envx,Hx⟩ ⟨rfl,rfl,he⟩
       exact⟨xs,(jE he).trans hx,hfin _ _ (Option.some.inj h)⟩
      ·cases h
     ·cases h
   ·cases h
  ·cases h
end
theorem wy (G:Gl) (hG:au G) (xs:List SV) (hu0:∀ n,SV.aB n xs=true) (H:List ax) (hl:xs.length<4294967296):af Tryz.prog G 57 [.list 1 xs] H (fun r H'=>H'=H++[.cells 0 1 xs]∧r= .sl H.length 0 0 xs.length):=by
 have hu:SV.aB H.length (List.drop 0 xs)=true:=hu0 _
 refine af.aD TB [2,5] aA _ Tryz.func57 rfl (by decide) Tryz.ntmps57 (by simp) rfl (by simp only[ap,Nat.reduceAdd];rfl) fun C R' hR hC hcl hB=>?_;have X:=aF;have hC':=congrArg List.length hC
 (refine bL ?_;with_reducible repeat' first|exact trivial|(apply ad.mk<;>intro hb)|apply av.mk)
 ·obtain rfl:xs=[]:=List.length_eq_zero_iff.1 hb
  exact dp [(H.length+1,0)] (.sl H.length 0 0 0) [.cells 0 1 []] hR hC' hcl ⟨rfl,rfl⟩
 ·exact dp [(H.length+1,0)] (.sl H.length 0 0 xs.length) [.cells 0 1 xs] hR hC' hcl ⟨rfl,rfl⟩
theorem wx (G:Gl) (hG:au G) (xs:List SV) (hu0:∀ n,SV.aB n xs=true) (H:List ax) (hl:xs.length<4294967296):af Tryz.prog G 83 [.list 8 xs] H (fun r H'=>H'=H++[.cells 0 8 xs]∧r= .sl H.length 0 0 xs.length):=by
 have hu:SV.aB H.length (List.drop 0 xs)=true:=hu0 _
 refine af.aD TB [2,5] aA _ Tryz.func83 rfl (by decide) Tryz.ntmps83 (by simp) rfl (by simp only[ap,Nat.reduceAdd];rfl) fun C R' hR hC hcl hB=>?_;have X:=aF;have hC':=congrArg List.length hC
 (refine bL ?_;with_reducible repeat' first|exact trivial|(apply ad.mk<;>intro hb)|apply av.mk)
 ·obtain rfl:xs=[]:=List.length_eq_zero_iff.1 hb
  exact dp [(H.length+1,0)] (.sl H.length 0 0 0) [.cells 0 8 []] hR hC' hcl ⟨rfl,rfl⟩
 ·exact dp [(H.length+1,0)] (.sl H.length 0 0 xs.length) [.cells 0 8 xs] hR hC' hcl ⟨rfl,rfl⟩
theorem ww (G:Gl) (hG:au G) (xs:List SV) (hu0:∀ n,SV.aB n xs=true) (H:List ax) (hl:xs.length<4294967296):af Tryz.prog G 84 [.list 9 xs] H (fun r H'=>H'=H++[.cells 0 9 xs]∧r= .sl H.length 0 0 xs.length):=by
 have hu:SV.aB H.length (List.drop 0 xs)=true:=hu0 _
 refine af.aD TB [2,5] aA _ Tryz.func84 rfl (by decide) Tryz.ntmps84 (by simp) rfl (by simp only[ap,Nat.reduceAdd];rfl) fun C R' hR hC hcl hB=>?_;have X:=aF;have hC':=congrArg List.length hC
 (refine bL ?_;with_reducible repeat' first|exact trivial|(apply ad.mk<;>intro hb)|apply av.mk)
 ·obtain rfl:xs=[]:=List.length_eq_zero_iff.1 hb
  exact dp [(H.length+1,0)] (.sl H.length 0 0 0) [.cells 0 9 []] hR hC' hcl ⟨rfl,rfl⟩
 ·exact dp [(H.length+1,0)] (.sl H.length 0 0 xs.length) [.cells 0 9 xs] hR hC' hcl ⟨rfl,rfl⟩
theorem wv (G:Gl) (hG:au G) (xs:List SV) (hu0:∀ n,SV.aB n xs=true) (H:List ax) (hl:xs.length<4294967296):af Tryz.prog G 85 [.list 12 xs] H (fun r H'=>H'=H++[.cells 0 12 xs]∧r= .sl H.length 0 0 xs.length):=by
 have hu:SV.aB H.length (List.drop 0 xs)=true:=hu0 _
 refine af.aD TB [2,5] aA _ Tryz.func85 rfl (by decide) Tryz.ntmps85 (by simp) rfl (by simp only[ap,Nat.reduceAdd];rfl) fun C R' hR hC hcl hB=>?_;have X:=aF;have hC':=congrArg List.length hC
 (refine bL ?_;with_reducible repeat' first|exact trivial|(apply ad.mk<;>intro hb)|apply av.mk)
 ·obtain rfl:xs=[]:=List.length_eq_zero_iff.1 hb
  exact dp [(H.length+1,0)] (.sl H.length 0 0 0) [.cells 0 12 []] hR hC' hcl ⟨rfl,rfl⟩
 ·exact dp [(H.length+1,0)] (.sl H.length 0 0 xs.length) [.cells 0 12 xs] hR hC' hcl ⟨rfl,rfl⟩
theorem oZ (G:Gl) (hG:au G) (xs:List SV) (hu0:∀ n,SV.aB n xs=true) (H:List ax) (hl:xs.length<4294967296):af Tryz.prog G 33 [.list 4 xs] H (fun r H'=>H'=H++[.cells 0 4 xs]∧r= .sl H.length 0 0 xs.length):=by
 have hu:SV.aB H.length (List.drop 0 xs)=true:=hu0 _
 refine af.aD TB [2,5] aA _ Tryz.func33 rfl (by decide) Tryz.ntmps33 (by simp) rfl (by simp only[ap,Nat.reduceAdd];rfl) fun C R' hR hC hcl hB=>?_;have X:=aF;have hC':=congrArg List.length hC
 (refine bL ?_;with_reducible repeat' first|exact trivial|(apply ad.mk<;>intro hb)|apply av.mk)
 ·obtain rfl:xs=[]:=List.length_eq_zero_iff.1 hb
  exact dp [(H.length+1,0)] (.sl H.length 0 0 0) [.cells 0 4 []] hR hC' hcl ⟨rfl,rfl⟩
 ·exact dp [(H.length+1,0)] (.sl H.length 0 0 xs.length) [.cells 0 4 xs] hR hC' hcl ⟨rfl,rfl⟩
theorem af.FX {P:Program} {G:Gl} {f:FuncId} {args args2:List SV} {H:List ax} {y:SV} (hG:au G) (hB:eS G 0) (hf:cQ H 0 [] args args2) (hy:∀ c c' v,aG c y v→aG c' y v)
 (h:af P G f args2 [] (fun r _=>r=y)):af P G f args H (fun r H'=>H'=H∧r=y):=by
 refine⟨h.1,fun c vs hH hc hg hv=>?_⟩
 subst hH
 have hk:ey (H:=[]) (X:=c.H) [] []:=ey.nil
 have h00:=Cx.iN (θ:=c.θ) (H:=[]) (X:=c.H) (w:=c.w) hc hk (fun B hB=>by cases hB)
 have hv2:=(bE.rep (θ:=c.θ) (H:=[]) (X:=c.H) (w:=c.w) hc hk).2 hf vs hv
 have hg2:yz G ⟨me c.θ ([]++c.H) 0 [],[],c.w⟩:=⟨fun p hp=>(aG.fH (θ:=c.θ) (H:=[]) (X:=c.H) (w:=c.w) hk).1 _ _ (hg.1 p hp) (hG p hp),fun C1 e=>h00.2 C1 (hB C1 e) (hg.2 C1 e)⟩
 refine(h.2 ⟨me c.θ ([]++c.H) 0 [],[],c.w⟩ vs rfl h00.1 hg2 hv2).mono ?_
 rintro e w' ⟨v,x,c',e1,e2,e3,e4,e5,e6⟩
 subst e2
 have hold:∀ k,k<c.w.heap.size→c'.w.heap[k]? =c.w.heap[k]? :=fun k hk=>e6.gi k hk (fun⟨id,o,⟨B,hB,_⟩,_⟩=>by cases hB)
 obtain⟨g1,g2⟩:=Cx.world hc (w':=c'.w) hold e6.size e6.os e6.tape e6.output
 exact⟨v,x,{ c with w:=c'.w},e1,rfl,⟨rfl,e3⟩,g2,by rw[e3] at e5 ⊢;exact hy _ _ _ e5,g1⟩
def xN (f:SV→SV→Bool):List SV→List SV→Bool
 |[],[]=>true
 |x::xs,y::ys=>f x y&&xN f xs ys
 |_,_=>false
def vq:Nat→SV→SV→Bool
 |0,_,_=>false
 |d+1,x,y=>match x,y with
  | .agg a,.agg b=>xN (vq d) a b
  | .list s a,.list t b=>Nat.beq s t&&xN (vq d) a b
  | .nil,.list _ []=>true
  |x,y=>SV.same x y
theorem rF {f:SV→SV→Bool} (hf:∀ x y,f x y=true→∀ c v,aG c x v→aG c y v):∀ {xs ys:List SV},xN f xs ys=true→xs.length=ys.length∧∀ c vs,aC c xs vs→aC c ys vs
 |[],[],_=>⟨rfl,fun _ _ h=>h⟩
 |x::xs,y::ys,h=>by
  simp only[xN,Bool.and_eq_true] at h
  obtain⟨h1,h2⟩:=rF hf h.2
  refine⟨by simp[h1],fun c vs hv=>?_⟩
  obtain⟨u,us,a1,a2,rfl⟩:=aC.ba.1 hv
  exact aC.bB (hf _ _ h.1 _ _ a1) (h2 _ _ a2)
 |[],_::_,h=>by cases h
 |_::_,[],h=>by cases h
theorem pS:∀ (d:Nat) (x y:SV),vq d x y=true→∀ c v,aG c x v→aG c y v
 |0,_,_,h=>by cases h
 |d+1,x,y,h=>by
  unfold vq at h
  split at h
  ·rename_i a b
   obtain⟨_,h2⟩:=rF (pS d) h
   intro c v hv
   simp only[aG] at hv ⊢
   obtain⟨vs,e1,e2,e3⟩:=hv
   exact⟨vs,h2 _ _ e1,e2,e3⟩
  ·rename_i s a t b
   simp only[Bool.and_eq_true] at h
   obtain⟨h1,h2⟩:=rF (pS d) h.2
   have hs:=Nat.eq_of_beq_eq_true h.1
   subst hs
   intro c v hv
   simp only[aG] at hv ⊢
   obtain⟨p,cap,e1,e2,e3,e4⟩:=hv
   refine⟨p,cap,by rw[e1,h1],by omega,e3,?_⟩
   rcases e4 with e4|⟨b',o,vs,q1,q2,q3⟩
   ·left
    subst e4
    exact List.length_eq_zero_iff.1 (by rw[← h1];rfl)
   ·exact .inr ⟨b',o,vs,q1,h2 _ _ q2,q3⟩
  ·intro c v hv
   simp only[aG] at hv ⊢
   exact⟨none,0,hv,Nat.le_refl _,Nat.zero_le _,.inl trivial⟩
  ·rw[SV.dT.1 _ _ h]
   exact fun _ _ h=>h
theorem af.I0 {P:Program} {G:Gl} {f:FuncId} {x y:SV} {H:List ax} {R:SV→List ax→Prop} (h:af P G f [y] H R) {d:Nat} (hn:vq d x y=true):af P G f [x] H R:=
 ⟨h.1,fun c vs h1 h2 h3 h4=>h.2 c vs h1 h2 h3 (by
  obtain⟨u,us,a1,a2,rfl⟩:=aC.ba.1 h4
  exact aC.bB (pS d _ _ hn _ _ a1) a2)⟩
def D7 (n:Int) (xs:List SV):SV:= .agg [.int .i64 8,.str [],.int .i64 0,.int .i64 n,.list 1 [],.list 8 xs,.list 9 [],.list 12 []]
theorem tS (G:Gl) (hG:au G) (n:Int) (H:List ax):af Tryz.prog G 23 [.int .i64 n,.list 8 []] H (fun r H'=>H'=H∧r=D7 n []):=by
 refine af.aD TB [] aA _ Tryz.func23 rfl (by decide) Tryz.ntmps23 (by simp) rfl (by simp only[ap,Nat.reduceAdd];rfl) fun C R' hR hC hcl hB=>?_;have X:=aF;have hC':=congrArg List.length hC
 (refine run ?_;with_reducible repeat' first|exact trivial|(apply ad.mk<;>intro hb)|apply av.mk)
 exact aS (n0:=H.length) hR hC' hcl (.same _ rfl) ⟨rfl,rfl⟩
theorem D8 (G:Gl) (hG:au G) (n:Int) (H:List ax):af Tryz.prog G 23 [.int .i64 n,.nil] H (fun r H'=>H'=H∧r=D7 n []):=
 ⟨(tS G hG n H).1,fun c vs h1 h2 h3 h4=>(tS G hG n H).2 c vs h1 h2 h3 (by
  obtain⟨u,us,a1,a2,rfl⟩:=aC.ba.1 h4
  obtain⟨u2,us2,a3,a4,rfl⟩:=aC.ba.1 a2
  exact aC.bB a1 (aC.bB (pS 1 .nil (.list 8 []) rfl _ _ a3) a4))⟩
def nF:aE:=[102]
def Bk:Ex:= .mk 8 [] 0 9 [] [] [] []
def kr (t:aE) (a b:Ex):Ex:= .mk 6 t 0 0 [] [a] [] [.mk 3 [] 0 [] b]
def GD (l:List Ex):Ex:= .mk 4 [] 0 0 [] l [] []
def EF:Ex:= .mk 3 [] 0 0 [[97],[98]] [.mk 6 [120] 0 0 [] [.mk 8 [] 0 8 [] [iS [97],.mk 2 [] 0 0 [] [] [] []] [] []] [] [.mk 1 [80,114,105,109,46,84,114,117,101] 0 [] (iS [98]),.mk 1 [80,114,105,109,46,70,97,108,115,101] 0 [] (.mk 8 [] 0 1 [] [iS [98],iS [97]] [] [])]] [] []
def Nq:Ex:= .mk 3 [] 0 0 [[115]] [GD [iS nF,Bk,Bk]] [] []
def EM:Ex:= .mk 3 [] 0 0 [[115]] [kr [116,35,49] Bk (kr [116,35,50] Bk (GD [iS nF,iS [116,35,49],iS [116,35,50]]))] [] []
def P0:Pg:=⟨ma,[.mk nF EF,.mk lu Nq]⟩
def O0:List Od:=[⟨nF,2,[0,1]⟩,⟨lu,1,[]⟩]
def Q0:Pg:=⟨ma,[.mk nF EF,.mk lu EM]⟩
def rn (n:Nat):aE:=[UInt8.ofNat (48+n)]
def Ih:List Ex:=[iS nF,Bk,Bk]
def Nl (f:FuncId) (sz:Nat) (xs:List SV) (H:List ax):Option (SV×List ax):=
 bif ((Nat.beq f 57&&Nat.beq sz 1)||(Nat.beq f 83&&Nat.beq sz 8)||(Nat.beq f 84&&Nat.beq sz 9)||(Nat.beq f 85&&Nat.beq sz 12)||(Nat.beq f 33&&Nat.beq sz 4))&&SV.aB 0 xs&&Nat.blt xs.length 1000
 then some (.sl H.length 0 0 xs.length,H++[.cells 0 sz xs]) else none
def KW:RC:=fun f args H=>match args with
 |[.str s]=>bif Nat.beq f 81&&decide (s.length≤18)&&(Lib.atoi s).isNone then some (.tuple [.int .i64 0,.ptr H.length 0 0 0],H++[.dead]) else none
 |[.list sz xs]=>Nl f sz xs H
 |[.int .i64 n,.nil]=>bif Nat.beq f 23 then some (D7 n [],H) else none
 |[x]=>bif Nat.beq f 8 then (bif vq 30 x P0.sv then some (.tuple [.list 3 (aK O0),.int .i64 0],H) else none)
  else bif Nat.beq f 19 then (match vf H 0 30 x with
   |some y=>bif vq 30 y Q0.sv then some (.int .i64 0,H) else none
   |none=>none) else none
 |[.ptr sb g0 0 0,.agg [k,nm,n,op,names,.sl id g 0 3,xb,xa],y]=>bif Nat.beq f 88&&SV.same (.agg [k,nm,n,op,names]) (.agg [.int .i64 4,.str [],.int .i64 0,.int .i64 0,.list 1 []])&&SV.same y (.list 1 (cc [0,1])) then (match H[id]?,H[sb]? with
  |some (.cells g' 8 xs),some (.cells g0' 2 [.agg [kb,.int .i64 1]])=>
   bif Nat.beq g g'&&Nat.beq g0 g0'&&SV.same (.list 8 xs) (.list 8 (ag Ih))&&kb.under H.length&&xb.under H.length&&xa.under H.length&&xb.leaf&&xa.leaf then
    some (.agg (lJ (cZ rn [0,1] Ih 1).1 [.int .i64 4,.str [],.int .i64 0,.int .i64 0,.list 1 [],.sl id g 0 3,xb,xa]),(H.set id (.cells g 8 (ag (cZ rn [0,1] Ih 1).2.1))).set sb (.cells g0 2 [.agg [kb,.int .i64 ((cZ rn [0,1] Ih 1).2.2:Int)]])) else none
  |_,_=>none) else none
 |_=>none
def GV (f:FuncId):List Nat:=[]
def GL (f:FuncId):Bool:=Nat.beq f 34||Nat.beq f 27||Nat.beq f 114
def Nu:Option (SV×List ax)→Bool
 |some (.bool true,_)=>true
 |_=>false
theorem rG:∀ (l:List UInt8) (acc:Nat) (b:UInt8),Lib.decFrom acc (l++[b])=(Lib.decFrom acc l).bind fun n=>(Lib.digitVal b).map fun d=>n*10+d
 |[],acc,b=>by
  simp only[List.nil_append,Lib.decFrom,Option.bind_some]
  cases Lib.digitVal b<;>rfl
 |a::t,acc,b=>by
  simp only[List.cons_append,Lib.decFrom]
  cases Lib.digitVal a with
  |none=>rfl
  |some d=>exact rG t _ b
theorem DV:∀ (l:List UInt8) (acc n:Nat),Lib.decFrom acc l=some n→acc≤n
 |[],acc,n,h=>by simp only[Lib.decFrom,Option.some.injEq] at h;omega
 |a::t,acc,n,h=>by
  simp only[Lib.decFrom] at h
  cases hd:Lib.digitVal a with
  |none=>rw[hd] at h;cases h
  |some d=>rw[hd] at h;have:=DV t _ n h;omega
theorem F4 {b:UInt8} {r:List UInt8} {n:Nat} (h:Lib.decFrom 0 (b::r)=some n) (h0:b≠48):0<n:=by
 simp only[Lib.decFrom] at h
 cases hd:Lib.digitVal b with
 |none=>rw[hd] at h;cases h
 |some d=>
  rw[hd] at h
  have h1:=DV r _ n h
  obtain⟨h2,h3,h4⟩:=Lib.digitVal_eq hd
  have:b.toNat≠48:=fun e=>h0 (UInt8.toNat_inj.1 e)
  omega
theorem ze {b:UInt8} {d:Nat} (h:Lib.digitVal b=some d):d<10∧UInt8.ofNat (48+d)=b:=by
 obtain⟨h2,h3,h4⟩:=Lib.digitVal_eq h
 refine⟨by omega,UInt8.toNat_inj.1 ?_⟩
 rw[UInt8.toNat_ofNat']
 omega
theorem qE {d:Nat} (h:d<10):Lib.digitVal (UInt8.ofNat (48+d))=some d:=by
 have h1:(UInt8.ofNat (48+d)).toNat=48+d:=by rw[UInt8.toNat_ofNat'];omega
 unfold Lib.digitVal
 rw[h1,if_pos (by omega)]
 congr 1
 omega
theorem Ah:∀ (k:Nat) (l:List UInt8) (n:Nat),l.length=k→l≠[]→l.head?≠some 48→Lib.decFrom 0 l=some n→Lib.decDigits n=l
 |0,l,n,hk,h,_,_=>absurd (List.length_eq_zero_iff.1 hk) h
 |k+1,l,n,hk,h,h0,hd=>by
  obtain⟨r,b,rfl⟩:∃ r b,l=r++[b]:=⟨l.dropLast,l.getLast h,(List.dropLast_concat_getLast h).symm⟩
  rw[rG] at hd
  cases hr:Lib.decFrom 0 r with
  |none=>rw[hr] at hd;cases hd
  |some m=>
   rw[hr] at hd
   cases hb:Lib.digitVal b with
   |none=>rw[hb] at hd;cases hd
   |some d=>
    rw[hb] at hd
    obtain rfl:m*10+d=n:=Option.some.inj hd
    obtain⟨hd1,hd2⟩:=ze hb
    by_cases hre:r=[]
    ·subst hre
     simp only[Lib.decFrom,Option.some.injEq] at hr
     subst hr
     rw[Lib.decDigits,dif_pos (by omega)]
     simp only[Nat.zero_mul,Nat.zero_add,hd2,List.nil_append]
    ·have hh:r.head?=(r++[b]).head?:=by cases r with
      |nil=>exact absurd rfl hre
      |cons x t=>rfl
     have hrl:r.length=k:=by simp at hk;omega
     have ih:=Ah k r m hrl hre (by rw[hh];exact h0) hr
     have hm:0<m:=by
      cases r with
      |nil=>exact absurd rfl hre
      |cons x t=>exact F4 hr (fun e=>h0 (by rw[e];rfl))
     rw[Lib.decDigits,dif_neg (by omega),show(m*10+d) / 10=m by omega,show(m*10+d) % 10=d by omega,ih,hd2]
theorem DU (u:Nat):Lib.decFrom 0 (Lib.decDigits u)=some u:=by
 induction u using Nat.strongRecOn with
 |_ u ih=>
  by_cases h:u<10
  ·rw[Lib.decDigits,dif_pos h]
   simp only[Lib.decFrom,qE h]
   congr 1;omega
  ·rw[Lib.decDigits,dif_neg h,rG,ih (u / 10) (by omega),Option.bind_some,qE (by omega)]
   simp only[Option.map_some]
   congr 1;omega
theorem Ag (u:Nat):Lib.decDigits u≠[]:=by
 rw[Lib.decDigits]
 split<;>simp
theorem Ba (u:Nat) (h:0<u):(Lib.decDigits u).head?≠some 48:=by
 induction u using Nat.strongRecOn with
 |_ u ih=>
  by_cases h2:u<10
  ·rw[Lib.decDigits,dif_pos h2]
   intro e
   have e:UInt8.ofNat (48+u)=48:=Option.some.inj e
   have:=qE h2
   rw[e] at this
   have h3:Lib.digitVal 48=some 0:=by decide
   rw[h3] at this
   have:=Option.some.inj this
   omega
  ·rw[Lib.decDigits,dif_neg h2]
   have ih:=ih (u / 10) (by omega) (by omega)
   cases hl:Lib.decDigits (u / 10) with
   |nil=>exact absurd hl (Ag _)
   |cons x t=>rw[hl] at ih;exact ih
def dM (s:aE):Nat:=if s.length<3∨11<s.length∨s.take 2≠[116,35]∨s[2]? =some 48 then 0 else (Lib.decFrom 0 (s.drop 2)).getD 0
theorem vt (s:aE):dM s<1000000000:=by
 unfold dM
 split
 ·decide
 ·rename_i h
  cases hd:Lib.decFrom 0 (s.drop 2) with
  |none=>show(0:Nat)<_;decide
  |some n=>
   have h1:=Lib.decFrom_lt _ _ _ hd
   have h2:(s.drop 2).length≤9:=by rw[List.length_drop];omega
   have h3:10 ^ (s.drop 2).length≤10 ^ 9:=Nat.pow_le_pow_right (by decide) h2
   show n<_
   omega
def vu (s:aE):Bool:=decide (s.take 2=[116,35])&&(gI (s.drop 2)).2&&decide (0<(gI (s.drop 2)).1)&&decide ((s.drop 2).length≤9)&&decide (Lib.itoa (gI (s.drop 2)).1=s.drop 2)
theorem F5 (s:aE):(if vu s then (gI (s.drop 2)).1 else 0)=(dM s:Int):=by
 by_cases hp:s.take 2=[116,35]
 rotate_left
 ·rw[show vu s=false by simp only[vu,decide_eq_false hp,Bool.false_and],show dM s=0 by unfold dM;rw[if_pos (.inr (.inr (.inl hp)))]]
  rfl
 have hs:s=116::35::s.drop 2:=by
  have:=List.take_append_drop 2 s
  rw[hp] at this
  exact this.symm
 generalize hds:s.drop 2=ds at*
 subst hs
 by_cases hl:ds.length≤9
 rotate_left
 ·rw[show vu (116::35::ds)=false by simp only[vu,List.drop_succ_cons,List.drop_zero,decide_eq_false hl,Bool.and_false,Bool.false_and],show dM (116::35::ds)=0 by unfold dM;rw[if_pos (.inr (.inl (by simp;omega)))]]
  rfl
 have hat:gI ds=match Lib.atoi ds with|some v=>(v,true)|none=>(0,false):=by
  unfold gI
  rw[Lib.atoiAll_short ds (by omega)]
  cases Lib.atoi ds<;>rfl
 by_cases hn:dM (116::35::ds)=0
 ·rw[hn]
  split
  ·rename_i hc
   exfalso
   simp only[vu,List.drop_succ_cons,List.drop_zero,Bool.and_eq_true,decide_eq_true_eq] at hc
   obtain⟨⟨⟨⟨-,h1⟩,h2⟩,-⟩,h3⟩:=hc
   generalize (gI ds).1=k at*
   obtain⟨u,rfl⟩:=Int.eq_ofNat_of_zero_le (show 0≤k by omega)
   rw[Lib.itoa_nonneg] at h3
   have hd:=DU u
   have hh:=Ba u (by omega)
   have hne:=Ag u
   rw[h3] at hd hh hne
   unfold dM at hn
   rw[if_neg,show List.drop 2 (116::35::ds)=ds from rfl,hd] at hn
   ·have:u=0:=hn
    omega
   ·rintro (h|h|h|h)
    ·cases ds with
     |nil=>exact hne rfl
     |cons x t=>simp at h;omega
    ·simp at h;omega
    ·exact h rfl
    ·cases ds with
     |nil=>exact hne rfl
     |cons x t=>exact hh h
  ·rfl
 ·have hn2:=hn
  unfold dM at hn2
  split at hn2
  ·exact absurd rfl hn2
  rename_i hc
  have hne:ds≠[]:=fun e=>hc (.inl (by rw[e];decide))
  have hh:ds.head?≠some 48:=fun e=>hc (.inr (.inr (.inr (by cases ds with|nil=>cases e|cons x t=>exact e))))
  cases hd:Lib.decFrom 0 ds with
  |none=>rw[show List.drop 2 (116::35::ds)=ds from rfl,hd] at hn2;exact absurd rfl hn2
  |some u=>
   have hnu:dM (116::35::ds)=u:=by unfold dM;rw[if_neg hc,show List.drop 2 (116::35::ds)=ds from rfl,hd];rfl
   rw[hnu]
   have hdg:=Ah _ ds u rfl hne hh hd
   have hu:0<u:=by omega
   have hai:Lib.atoi ds=some (u:Int):=by
    cases ds with
    |nil=>exact absurd rfl hne
    |cons x t=>
     have hx:∃ d,Lib.digitVal x=some d:=Lib.digit_of_decFrom _ _ _ hd 0 x rfl
     obtain⟨d,hx⟩:=hx
     obtain⟨h1,h2,-⟩:=Lib.digitVal_eq hx
     have h45:(x==45)=false:=by
      rw[beq_eq_false_iff_ne];intro e;rw[e] at h1;revert h1;decide
     have h43:(x==43)=false:=by
      rw[beq_eq_false_iff_ne];intro e;rw[e] at h1;revert h1;decide
     simp only[Lib.atoi,h45,h43,Bool.false_eq_true,if_false,Lib.decNat,List.isEmpty_cons,hd,Option.map_some]
   rw[hai] at hat
   have hat:gI ds=((u:Int),true):=hat
   rw[if_pos]
   ·rw[hat]
   ·simp only[vu,List.drop_succ_cons,List.drop_zero,hat,Lib.itoa_nonneg,hdg,Bool.and_eq_true,decide_eq_true_eq]
    refine⟨⟨⟨⟨rfl,trivial⟩,by omega⟩,hl⟩,trivial⟩
def lx (l:List Bd):Nat:=((aP l).foldl (fun n s=>max n (dM s)) 0)+1
theorem pN:∀ (l:List aE) (n:Nat),n<1000000000→l.foldl (fun n s=>max n (dM s)) n<1000000000
 |[],n,h=>h
 |s::r,n,h=>pN r _ (by have:=vt s;show max n (dM s)<_;omega)
theorem vv (l:List Bd):lx l<1000000001:=by
 have:=pN (aP l) 0 (by decide)
 unfold lx
 omega
def kD (P:List (aE×Ex)) (b:Ex):Ex:=P.foldr (fun p b=>kr p.1 p.2 b) b
theorem pA (P:List (aE×Ex)) (b:Ex):(kD P b).cells=lJ P b.cells:=by
 induction P with
 |nil=>rfl
 |cons p r ih=>
  show(kr p.1 p.2 (kD r b)).cells=Cr p.2 p.1 (lJ r b.cells)
  rw[← ih];rfl
def bJ {α:Type} (f:α→Nat→α×Nat):List α→Nat→List α×Nat
 |[],n=>([],n)
 |x::r,n=>((f x n).1::(bJ f r (f x n).2).1,(bJ f r (f x n).2).2)
theorem rA {α:Type} (f:α→Nat→α×Nat):∀ (l:List α) (n:Nat),(bJ f l n).1.length=l.length
 |[],_=>rfl
 |x::r,n=>by rw[bJ,List.length_cons,List.length_cons,rA f r]
def kl (f:Ex→Nat→Ex×Nat) (b:Bd) (n:Nat):Bd×Nat:=(.mk b.name (f b.e n).1,(f b.e n).2)
def vO (f:Ex→Nat→Ex×Nat) (a:Al) (n:Nat):Al×Nat:=(.mk a.kind a.name a.n a.names (f a.body n).1,(f a.body n).2)
def By (k:List Od) (b:Bd) (s:Ex):Bool:=(decide (b.e.kind=4)||decide (b.e.kind=5)||decide (b.e.kind=6)||decide (b.e.kind=8))&&decide ((jX k s).head?=some b.name)&&!decide (b.name∈cX b.e)
def mc (its:Nat→aE) (k:List Od) (kd:Int) (nm:aE) (nn op:Int) (names:List aE) (S:List Ex) (B:List Bd) (A:List Al) (n:Nat):Ex×Nat:=
 if kd=5∧B.length=1 then
  (if By k (B.getD 0 (.mk [] iO)) (S.getD 0 iO) then kr (B.getD 0 (.mk [] iO)).name (B.getD 0 (.mk [] iO)).e (S.getD 0 iO) else .mk kd nm nn op names S B A,n)
 else if kd=4∧(cu k (.mk kd nm nn op names S B A)).2=true then
  (kD (cZ its (cu k (.mk kd nm nn op names S B A)).1.bN S n).1 (.mk kd nm nn op names (cZ its (cu k (.mk kd nm nn op names S B A)).1.bN S n).2.1 B A),(cZ its (cu k (.mk kd nm nn op names S B A)).1.bN S n).2.2)
 else (.mk kd nm nn op names S B A,n)
def bF (its:Nat→aE) (k:List Od):Nat→Ex→Nat→Ex×Nat
 |0,e,n=>(e,n)
 |m+1,.mk kd nm nn op names ae binds alts,n=>
  mc its k kd nm nn op names (bJ (bF its k m) ae n).1 (bJ (kl (bF its k m)) binds (bJ (bF its k m) ae n).2).1
   (bJ (vO (bF its k m)) alts (bJ (kl (bF its k m)) binds (bJ (bF its k m) ae n).2).2).1 (bJ (vO (bF its k m)) alts (bJ (kl (bF its k m)) binds (bJ (bF its k m) ae n).2).2).2
theorem tA:∀ (S:List Ex) (i:Nat) (x:Ex),i<S.length→cw (S.set i x)+(S.getD i iO).wt=cw S+x.wt
 |[],_,_,h=>absurd h (by simp)
 |y::r,0,x,_=>by simp only[List.set_cons_zero,cw,List.getD_cons_zero];omega
 |y::r,i+1,x,h=>by
  have:=tA r i x (by simpa using h)
  simp only[List.set_cons_succ,cw,List.getD_cons_succ]
  omega
def mS (P:List (aE×Ex)):Nat:=(P.map fun p=>2+p.1.length+p.2.wt).sum
theorem EH (P:List (aE×Ex)) (b:Ex):(kD P b).wt=mS P+b.wt:=by
 induction P with
 |nil=>simp[kD,mS]
 |cons p r ih=>
  have e:(kD (p::r) b).wt=2+p.1.length+p.2.wt+(kD r b).wt:=by
   show(kr p.1 p.2 (kD r b)).wt=_
   simp only[kr,Ex.wt,cw,aM,cU,Al.wt,db,List.length_nil]
   omega
  rw[e,ih]
  simp only[mS,List.map_cons,List.sum_cons]
  omega
theorem nj (its:Nat→aE) (hi:∀ n,n<4294967296→(its n).length≤20):∀ (ns:List Int) (S:List Ex) (n:Nat),(∀ k∈ns,k.toNat+1<S.length)→n+ns.length≤4294967296→
 cw (cZ its ns S n).2.1+mS (cZ its ns S n).1≤cw S+47*(cZ its ns S n).1.length∧(cZ its ns S n).2.2=n+(cZ its ns S n).1.length∧(cZ its ns S n).2.1.length=S.length
 |[],S,n,_,_=>by simp[cZ,mS]
 |k::r,S,n,hr,hn=>by
  rw[cZ]
  rw[List.length_cons] at hn
  split
  ·simp[mS]
  ·split
   ·exact nj its hi r S n (fun x hx=>hr x (List.mem_cons_of_mem _ hx)) (by omega)
   ·have hk:=hr k (List.mem_cons_self ..)
    have hset:=tA S (k.toNat+1) (iS (Bp its n)) hk
    obtain⟨h1,h2,h3⟩:=nj its hi r (S.set (k.toNat+1) (iS (Bp its n))) (n+1) (fun x hx=>by rw[List.length_set];exact hr x (List.mem_cons_of_mem _ hx)) (by omega)
    have hl:=hi n (by omega)
    have hv:(iS (Bp its n)).wt=3+(its n).length:=by simp only[iS,Bp,Ex.wt,db,cw,aM,cU,List.length_append,List.length_cons,List.length_nil];omega
    have ht:(Bp its n).length=2+(its n).length:=by simp only[Bp,List.length_append,List.length_cons,List.length_nil]
    refine⟨?_,?_,?_⟩
    ·simp only[mS,List.map_cons,List.sum_cons,List.length_cons] at h1 ⊢
     omega
    ·simp only[List.length_cons];omega
    ·simp only[h3,List.length_set]
theorem gw {α:Type} (f:α→Nat→α×Nat) (w:α→Nat):∀ (l:List α) (n:Nat),(∀ x∈l,∀ n',n'+w x≤n+(l.map w).sum→w (f x n').1+50≤51*w x∧(f x n').2+1≤n'+w x)→
 ((bJ f l n).1.map w).sum+50*l.length≤51*(l.map w).sum∧(bJ f l n).2+l.length≤n+(l.map w).sum
 |[],n,_=>by simp[bJ]
 |x::r,n,h=>by
  obtain⟨h1,h2⟩:=h x (List.mem_cons_self ..) n (by simp only[List.map_cons,List.sum_cons];omega)
  obtain⟨h3,h4⟩:=gw f w r (f x n).2 (fun y hy n' hn'=>h y (List.mem_cons_of_mem _ hy) n' (by simp only[List.map_cons,List.sum_cons];omega))
  simp only[bJ,List.map_cons,List.sum_cons,List.length_cons] at h1 ⊢
  omega
theorem tP:∀ (l L:List Nat),l.Nodup→(∀ x∈l,x∈L)→l.length≤L.length
 |[],L,_,_=>Nat.zero_le _
 |x::r,L,h,hs=>by
  obtain⟨a,b,rfl⟩:=List.append_of_mem (hs x (List.mem_cons_self ..))
  rw[List.nodup_cons] at h
  have:=tP r (a++b) h.2 (fun y hy=>by
   have:=hs y (List.mem_cons_of_mem _ hy)
   rw[List.mem_append,List.mem_cons] at this
   rw[List.mem_append]
   rcases this with h1|h1|h1
   ·exact .inl h1
   ·exact absurd (h1 ▸ hy) h.1
   ·exact .inr h1)
  simp only[List.length_append,List.length_cons] at this ⊢
  omega
theorem qn {k:List Od} (hk:∀ s,vT (cN k s)) {kd:Int} {nm:aE} {nn op:Int} {names:List aE} {S:List Ex} {B:List Bd} {A:List Al} (h:(cu k (.mk kd nm nn op names S B A)).2=true):
 (∀ n∈(cu k (.mk kd nm nn op names S B A)).1.bN,0≤n∧n+1<(S.length:Int))∧(cu k (.mk kd nm nn op names S B A)).1.bN.length+1≤S.length:=by
 cases S with
 |nil=>cases h
 |cons s r=>
  have e:cu k (.mk kd nm nn op names (s::r) B A)=if s.kind≠1 then (oK,false) else (cN k s.name,(bH k s.name).isSome&&decide ((cN k s.name).arity<((s::r).length:Int))):=rfl
  rw[e] at h ⊢
  split at h
  ·cases h
  rename_i hk1
  rw[if_neg hk1]
  simp only[Bool.and_eq_true,decide_eq_true_eq] at h
  obtain⟨h1,h2⟩:=hk s.name
  have hrg:∀ n∈(cN k s.name).bN,0≤n∧n+1<((s::r).length:Int):=fun n hn=>by have:=h1 n hn;omega
  refine⟨hrg,?_⟩
  have hsub:∀ x∈(cN k s.name).bN.map Int.toNat,x∈List.range r.length:=fun x hx=>by
   obtain⟨n,hn,rfl⟩:=List.mem_map.1 hx
   have:=hrg n hn
   rw[List.mem_range]
   simp only[List.length_cons] at this
   omega
  have hnd:((cN k s.name).bN.map Int.toNat).Nodup:=by
   refine List.pairwise_map.2 (List.Pairwise.imp_of_mem ?_ h2)
   intro a b ha hb hab e
   have:=h1 a ha
   have:=h1 b hb
   omega
  have hsp:=tP _ _ hnd hsub
  rw[List.length_map,List.length_range] at hsp
  simp only[List.length_cons]
  omega
theorem l6 (its:Nat→aE) (hi:∀ n,n<4294967296→(its n).length≤20) (k:List Od) (hk:∀ s,vT (cN k s)):∀ (m:Nat) (e:Ex) (n:Nat),e.wt≤m→dn dN e=true→n+e.wt≤4294967296→
 (bF its k m e n).1.wt+50≤51*e.wt∧(bF its k m e n).2+1≤n+e.wt
 |0,e,_,h,_,_=>absurd e.b9 (by omega)
 |m+1,.mk kd nm nn op names ae binds alts,n,hm,hs,hn=>by
  rw[mU,Bool.and_eq_true,List.all_eq_true,Ex.bM] at hs
  obtain⟨hs1,hs2⟩:=hs
  have hw:(Ex.mk kd nm nn op names ae binds alts).wt=1+nm.length+db names+cw ae+aM binds+cU alts:=by simp only[Ex.wt]
  rw[hw,cE,cg,fC] at hm hn ⊢
  have hf:=l6 its hi k hk m
  obtain⟨a1,a2⟩:=gw (bF its k m) Ex.wt ae n (fun x hx n' hn'=>by
   have h1:=eo hx
   rw[cE] at h1
   exact hf x n' (by omega) (hs2 x (List.mem_append_left _ hx)) (by have:=x.b9;omega))
  obtain⟨b1,b2⟩:=gw (kl (bF its k m)) Bd.wt binds (bJ (bF its k m) ae n).2 (fun x hx n' hn'=>by
   have h1:=df hx
   rw[cg] at h1
   have h2:=x.di
   have:=hf x.e n' (by omega) (hs2 _ (List.mem_append_right _ (List.mem_append_left _ (List.mem_map_of_mem hx)))) (by omega)
   obtain⟨s,e⟩:=x
   simp only[kl,Bd.wt,Bd.e,Bd.name] at this h2 ⊢
   omega)
  obtain⟨c1,c2⟩:=gw (vO (bF its k m)) Al.wt alts (bJ (kl (bF its k m)) binds (bJ (bF its k m) ae n).2).2 (fun x hx n' hn'=>by
   have h1:=ek hx
   rw[fC] at h1
   have h2:=x.di
   have:=hf x.body n' (by omega) (hs2 _ (List.mem_append_right _ (List.mem_append_right _ (List.mem_map_of_mem hx)))) (by omega)
   obtain⟨_,s,_,l,e⟩:=x
   simp only[vO,Al.wt,Al.body,Al.kind,Al.name,Al.n,Al.names] at this h2 ⊢
   omega)
  have l1:=rA (bF its k m) ae n
  have l2:=rA (kl (bF its k m)) binds (bJ (bF its k m) ae n).2
  rw[bF]
  generalize hS:(bJ (bF its k m) ae n).1=S at*
  generalize hN1:(bJ (bF its k m) ae n).2=n1 at*
  generalize hB:(bJ (kl (bF its k m)) binds n1).1=B at*
  generalize hN2:(bJ (kl (bF its k m)) binds n1).2=n2 at*
  generalize hA:(bJ (vO (bF its k m)) alts n2).1=A at*
  generalize hN3:(bJ (vO (bF its k m)) alts n2).2=n3 at*
  have hnode:(Ex.mk kd nm nn op names S B A).wt=1+nm.length+db names+(S.map Ex.wt).sum+(B.map Bd.wt).sum+(A.map Al.wt).sum:=by simp only[Ex.wt,cE,cg,fC]
  unfold mc
  split
  ·rename_i h5
   obtain⟨h5,hB1⟩:=h5
   split
   ·refine⟨?_,by omega⟩
    have hsl:ae.length=1:=by
     subst h5
     simp only[dN,Ex.kind,il,Bool.and_eq_true] at hs1
     simp at hs1
     omega
    obtain⟨b,rfl⟩:=List.length_eq_one_iff.1 hB1
    obtain⟨s,rfl⟩:=List.length_eq_one_iff.1 (l1.trans hsl)
    obtain⟨bn,be⟩:=b
    simp only[List.getD_cons_zero,kr,Bd.name,Bd.e,Ex.wt,cw,aM,cU,Al.wt,db,List.length_nil,List.map_cons,List.map_nil,List.sum_cons,List.sum_nil,Bd.wt] at hnode a1 b1 ⊢
    omega
   ·exact⟨by rw[hnode];omega,by omega⟩
  ·split
   ·rename_i h4
    obtain⟨hr,hl⟩:=qn hk h4.2
    generalize (cu k (.mk kd nm nn op names S B A)).1.bN=ns at*
    obtain⟨g1,g2,g3⟩:=nj its hi ns S n3 (fun x hx=>by have:=hr x hx;omega) (by omega)
    have g4:=kX its ns S n3
    generalize cZ its ns S n3=FF at*
    rw[EH]
    simp only[Ex.wt,cE,cg,fC] at g1 ⊢
    omega
   ·exact⟨by rw[hnode];omega,by omega⟩
theorem A7 (G:Gl) (hG:au G) (l:List Ex) (H:List ax) (hl:l.length<4294967296):af Tryz.prog G 83 [.list 8 (ag l)] H (fun r H'=>H'=H++[.cells 0 8 (ag l)]∧r= .sl H.length 0 0 l.length):=by
 refine af.aD TB [2,5] aA _ Tryz.func83 rfl (by decide) Tryz.ntmps83 (by simp) rfl (by simp only[ap,Nat.reduceAdd];rfl) fun C R' hR hC hcl hB=>?_;have X:=aF;have hC':=congrArg List.length hC
 (refine bL ?_;with_reducible repeat' first|exact trivial|(apply ad.mk<;>intro hb)|apply av.mk)
 ·obtain rfl:l=[]:=List.length_eq_zero_iff.1 hb
  exact dp [(H.length+1,0)] (.sl H.length 0 0 0) [.cells 0 8 []] hR hC' hcl ⟨rfl,rfl⟩
 ·exact dp [(H.length+1,0)] (.sl H.length 0 0 l.length) [.cells 0 8 (ag l)] hR hC' hcl ⟨rfl,rfl⟩
theorem A6 (G:Gl) (hG:au G) (l:List Bd) (H:List ax) (hl:l.length<4294967296):af Tryz.prog G 84 [.list 9 (ah l)] H (fun r H'=>H'=H++[.cells 0 9 (ah l)]∧r= .sl H.length 0 0 l.length):=by
 refine af.aD TB [2,5] aA _ Tryz.func84 rfl (by decide) Tryz.ntmps84 (by simp) rfl (by simp only[ap,Nat.reduceAdd];rfl) fun C R' hR hC hcl hB=>?_;have X:=aF;have hC':=congrArg List.length hC
 (refine bL ?_;with_reducible repeat' first|exact trivial|(apply ad.mk<;>intro hb)|apply av.mk)
 ·obtain rfl:l=[]:=List.length_eq_zero_iff.1 hb
  exact dp [(H.length+1,0)] (.sl H.length 0 0 0) [.cells 0 9 []] hR hC' hcl ⟨rfl,rfl⟩
 ·exact dp [(H.length+1,0)] (.sl H.length 0 0 l.length) [.cells 0 9 (ah l)] hR hC' hcl ⟨rfl,rfl⟩
theorem A5 (G:Gl) (hG:au G) (l:List Al) (H:List ax) (hl:l.length<4294967296):af Tryz.prog G 85 [.list 12 (aw l)] H (fun r H'=>H'=H++[.cells 0 12 (aw l)]∧r= .sl H.length 0 0 l.length):=by
 refine af.aD TB [2,5] aA _ Tryz.func85 rfl (by decide) Tryz.ntmps85 (by simp) rfl (by simp only[ap,Nat.reduceAdd];rfl) fun C R' hR hC hcl hB=>?_;have X:=aF;have hC':=congrArg List.length hC
 (refine bL ?_;with_reducible repeat' first|exact trivial|(apply ad.mk<;>intro hb)|apply av.mk)
 ·obtain rfl:l=[]:=List.length_eq_zero_iff.1 hb
  exact dp [(H.length+1,0)] (.sl H.length 0 0 0) [.cells 0 12 []] hR hC' hcl ⟨rfl,rfl⟩
 ·exact dp [(H.length+1,0)] (.sl H.length 0 0 l.length) [.cells 0 12 (aw l)] hR hC' hcl ⟨rfl,rfl⟩
theorem Ff (G:Gl) (hG:au G) (k:List Od) (kb:Nat) (H:List ax) (hkb:H[kb]? =some (.map none (ky k))) (id g:Nat) (S:List Ex) (hid:H[id]? =some (.cells g 8 (ag S))) (hS:S.length<4294967296)
 (kd:Int) (nm:aE) (nn op:Int) (names:List aE) (B:List Bd) (A:List Al) (xb xa:SV) (hxb:xb.under H.length=true) (hxa:xa.under H.length=true) (hxbl:xb.leaf=true) (hxal:xa.leaf=true):
 af Tryz.prog G 65 [.map kb,.agg [.int .i64 kd,.str nm,.int .i64 nn,.int .i64 op,.list 1 (names.map .str),.sl id g 0 S.length,xb,xa]] H (fun r H'=>H'=H∧r= .tuple [.agg (cu k (.mk kd nm nn op names S B A)).1.cells,.bool (cu k (.mk kd nm nn op names S B A)).2]):=by
 have lk:=(List.getElem?_eq_some_iff.1 hkb).1
 have l1:=(List.getElem?_eq_some_iff.1 hid).1
 have hkx:=fun L=>(show(H++L)[kb]? =some (.map none (ky k)) by rw[cA lk];exact hkb)
 have hix:=fun L=>(show(H++L)[id]? =some (.cells g 8 (ag S)) by rw[cA l1];exact hid)
 cases hs:S with
 |nil=>
  have hc:cu k (.mk kd nm nn op names [] B A)=(oK,false):=rfl
  rw[hc]
  subst hs
  refine af.aD TB [] aA _ Tryz.func65 rfl (by decide) Tryz.ntmps65 (by simp) rfl (by simp only[ap,Nat.reduceAdd];rfl) fun C R' hR hC hcl hB=>?_;have X:=aF;have hC':=congrArg List.length hC
  have X:=And.intro X hix
  (refine run ?_;with_reducible repeat' first|exact trivial|(apply ad.mk<;>intro hb)|apply av.mk)
  exact aS (n0:=H.length) hR hC' hcl (.same _ rfl) ⟨rfl,rfl⟩
 |cons s r=>
  obtain⟨k2,n2,nn2,op2,ns2,ss2,bs2,as2⟩:=s
  have hc:cu k (.mk kd nm nn op names (.mk k2 n2 nn2 op2 ns2 ss2 bs2 as2::r) B A)=if k2≠1 then (oK,false) else (cN k n2,(bH k n2).isSome&&decide ((cN k n2).arity<((Ex.mk k2 n2 nn2 op2 ns2 ss2 bs2 as2::r).length:Int))):=rfl
  rw[hc]
  rw[hs] at hS hix
  have hs0:(Ex.mk k2 n2 nn2 op2 ns2 ss2 bs2 as2::r)[0]? =some (.mk k2 n2 nn2 op2 ns2 ss2 bs2 as2):=rfl
  have hlr:(Ex.mk k2 n2 nn2 op2 ns2 ss2 bs2 as2::r).length=r.length+1:=rfl
  generalize hSS:Ex.mk k2 n2 nn2 op2 ns2 ss2 bs2 as2::r=S2 at*
  have hlr0:¬ (S2.length:Int)=0:=by omega
  have hz:=pT k n2
  have hh:=pL k n2
  refine af.aD TB [] aA _ Tryz.func65 rfl (by decide) Tryz.ntmps65 (by simp) rfl (by simp only[ap,Nat.reduceAdd];rfl) fun C R' hR hC hcl hB=>?_;have X:=aF;have hC':=congrArg List.length hC
  have X:=And.intro X (And.intro hkx (And.intro hix (And.intro hz (And.intro hh (And.intro hs0 hlr0)))))
  (refine run ?_;with_reducible repeat' first|exact trivial|(apply ad.mk<;>intro hb)|apply av.mk)
  ·exact aS (n0:=H.length) hR hC' hcl (.same _ rfl) ⟨rfl,by rw[if_pos hb];rfl⟩
  ·exact aS (n0:=H.length) hR hC' hcl (.same _ (by simp only[bq,SV.under,SV.aB,eF,Bool.and_self])) ⟨rfl,by rw[if_neg hb];rfl⟩
theorem cQ.app {H:List ax} {n:Nat} {ks:dD}:∀ {a a' b b':List SV},cQ H n ks a a'→cQ H n ks b b'→cQ H n ks (a++b) (a'++b')
 |[],_,_,_,h,h2=>by cases h;exact h2
 |x::r,_,_,_,h,h2=>by cases h;rename_i h1 h3;exact .cons _ _ _ _ h1 (h3.app h2)
theorem Hn {H:List ax} {n:Nat} {ks:dD} (a:Ex) (t:aE) {b b':List SV} (h:cQ H n ks b b'):cQ H n ks (Cr a t b) (Cr a t b'):=by
 refine .cons _ _ _ _ (.same _ rfl) (.cons _ _ _ _ (.same _ rfl) (.cons _ _ _ _ (.same _ rfl) (.cons _ _ _ _ (.same _ rfl) (.cons _ _ _ _ (.same _ rfl) (.cons _ _ _ _ (.same _ ?_) (.cons _ _ _ _ (.same _ rfl) (.cons _ _ _ _ (.list _ _ _ (.cons _ _ _ _ (.agg _ _ ?_) .nil)) .nil)))))))
 ·simp only[SV.under,SV.aB,Ex.bD,Bool.and_self]
 ·exact cQ.app (cQ.same rfl) h
theorem C7 {H:List ax} {n:Nat} {ks:dD} (P:List (aE×Ex)) {b b':List SV} (h:cQ H n ks b b'):cQ H n ks (lJ P b) (lJ P b'):=by
 induction P with
 |nil=>exact h
 |cons p r ih=>exact Hn p.2 p.1 ih
theorem Ce (P:List (aE×Ex)) {b:List SV} (h:b.length=8):(lJ P b).length=8:=by
 cases P with
 |nil=>exact h
 |cons p r=>rfl
theorem Nb {H:List ax} {kb sb g0:Nat} {k:List Od} {nx0:Nat} (h1:H[kb]? =some (.map none (ky k))) (h2:H[sb]? =some (.cells g0 2 [.agg [.map kb,.int .i64 (nx0:Int)]])):
 ∃ Q:Nat→List ax,Q nx0=H∧(∀ nx:Nat,H.set sb (.cells g0 2 [.agg [.map kb,.int .i64 (nx:Int)]])=Q nx)∧(∀ nx,(Q nx).length=H.length)∧
  ((∀ nx L,(Q nx++L)[kb]? =some (.map none (ky k)))∧(∀ (nx:Nat) L,(Q nx++L)[sb]? =some (.cells g0 2 [.agg [.map kb,.int .i64 (nx:Int)]]))∧(∀ (nx nx':Nat) L,(Q nx++L).set sb (.cells g0 2 [.agg [.map kb,.int .i64 (nx':Int)]])=Q nx'++L))∧(closed H→∀ nx,closed (Q nx)):=by
 have l1:=(List.getElem?_eq_some_iff.1 h1).1
 have l2:=(List.getElem?_eq_some_iff.1 h2).1
 have hne:kb≠sb:=fun e=>by
  rw[e,h2] at h1
  have:=Option.some.inj h1
  simp at this
 refine⟨fun nx=>H.set sb (.cells g0 2 [.agg [.map kb,.int .i64 (nx:Int)]]),eg h2,fun _=>rfl,fun nx=>by simp,⟨fun nx L=>?_,fun nx L=>?_,fun nx nx' L=>?_⟩,fun hc nx=>hc.set ?_⟩
 ·rw[List.getElem?_append_left (by simpa using l1),List.getElem?_set_ne (fun e=>hne e.symm)];exact h1
 ·rw[List.getElem?_append_left (by simpa using l2),List.getElem?_set_self (by simpa using l2)]
 ·rw[eN (by simpa using l2),List.set_set]
 ·simp only[ax.under,SV.aB,SV.under,l1,decide_true,Bool.and_self]
theorem BB (n:Nat):([(n,0),(n+1,0),(n+2,0),(n+3,0),(n+4,0)].map Prod.fst).Nodup:=IY n
def Lq (G:Gl) (its:Nat→aE) (k:List Od) (m:Nat):Prop:=∀ (e:Ex) (H:List ax) (kb sb g0 nx:Nat),e.wt≤m→e.wt<67108864→dn dN e=true→nx+e.wt≤4294967295→H[kb]? =some (.map none (ky k))→H[sb]? =some (.cells g0 2 [.agg [.map kb,.int .i64 (nx:Int)]])→
 af Tryz.prog G 34 [.ptr sb g0 0 0,e.sv] H (fun r H'=>H'=H.set sb (.cells g0 2 [.agg [.map kb,.int .i64 ((bF its k m e nx).2:Int)]])∧r=(bF its k m e nx).1.sv)
theorem uP {α:Type} {D l:List α} {i:Nat} (hD:D.length=i) (h:i<l.length):(D++l.drop i)[i]? =some l[i]:=by
 rw[List.getElem?_append_right (by omega),hD,Nat.sub_self,List.getElem?_drop,Nat.add_zero,List.getElem?_eq_getElem h]
theorem uR {α:Type} {D l:List α} {i:Nat} (hD:D.length=i) (h:i<l.length) (y:α):(D++l.drop i).set i y=(D++[y])++l.drop (i+1):=by
 rw[List.set_append,if_neg (by omega),hD,Nat.sub_self,List.drop_eq_getElem_cons h,List.set_cons_zero,List.append_assoc];rfl
theorem uQ {α:Type} {D l:List α} {i:Nat} (hD:D.length=i) (h:i≤l.length):(D++l.drop i).length=l.length:=by rw[List.length_append,hD,List.length_drop];omega
theorem w9 {D l:List Ex} {i:Nat} (hD:D.length=i) (h:i<l.length):(ag (D++l.drop i))[i]? =some (.agg l[i].cells):=by rw[bh,List.getElem?_map,uP hD h];rfl
theorem we {D l:List Bd} {i:Nat} (hD:D.length=i) (h:i<l.length):(ah (D++l.drop i))[i]? =some (.agg (.str l[i].name::l[i].e.cells)):=by rw[aV,List.getElem?_map,uP hD h,Option.map_some,Bd.sv,Bd.cM]
theorem vW {D l:List Al} {i:Nat} (hD:D.length=i) (h:i<l.length):(aw (D++l.drop i))[i]? =some (.agg (.int .i64 l[i].kind:: .str l[i].name:: .int .i64 l[i].n:: .list 1 (l[i].names.map .str)::l[i].body.cells)):=by
 rw[bG,List.getElem?_map,uP hD h,Option.map_some,Al.sv,Al.cM]
theorem uY {D l:List Ex} {i:Nat} (hD:D.length=i) (h:i<l.length) (y:Ex):(ag (D++l.drop i)).set i (.agg y.cells)=ag ((D++[y])++l.drop (i+1)):=by
 rw[bh,bh,← uR hD h,List.map_set];rfl
theorem Ex.eD (e:Ex):List.drop 8 e.cells=[]:=List.drop_eq_nil_of_le (by rw[e.bS];exact Nat.le_refl _)
theorem uH {D l:List Bd} {i:Nat} (hD:D.length=i) (h:i<l.length) (y:Ex):(ah (D++l.drop i)).set i (.agg (.str l[i].name::(y.cells++List.drop 8 l[i].e.cells)))=ah ((D++[.mk l[i].name y])++l.drop (i+1)):=by
 rw[Ex.eD,List.append_nil,aV,aV,← uR hD h,List.map_set];rfl
theorem ux {D l:List Al} {i:Nat} (hD:D.length=i) (h:i<l.length) (y:Ex):
 (aw (D++l.drop i)).set i (.agg (.int .i64 l[i].kind:: .str l[i].name:: .int .i64 l[i].n:: .list 1 (l[i].names.map .str)::(y.cells++List.drop 8 l[i].body.cells)))=aw ((D++[.mk l[i].kind l[i].name l[i].n l[i].names y])++l.drop (i+1)):=by
 rw[Ex.eD,List.append_nil,bG,bG,← uR hD h,List.map_set];rfl
theorem uZ {D l:List Ex} {i:Nat} (hD:D.length=i) (h:i≤l.length):(ag (D++l.drop i)).take l.length=ag (D++l.drop i):=List.take_of_length_le (by rw[cR,uQ hD h];exact Nat.le_refl _)
theorem uI {D l:List Bd} {i:Nat} (hD:D.length=i) (h:i≤l.length):(ah (D++l.drop i)).take l.length=ah (D++l.drop i):=List.take_of_length_le (by rw[aV,List.length_map,uQ hD h];exact Nat.le_refl _)
theorem uz {D l:List Al} {i:Nat} (hD:D.length=i) (h:i≤l.length):(aw (D++l.drop i)).take l.length=aw (D++l.drop i):=List.take_of_length_le (by rw[bG,List.length_map,uQ hD h];exact Nat.le_refl _)
theorem fX {α:Type} {f:α→Nat→α×Nat} {l D:List α} {n0 n i:Nat} (h:i<l.length) (hm:bJ f l n0=(D++(bJ f (l.drop i) n).1,(bJ f (l.drop i) n).2)):
 bJ f l n0=((D++[(f l[i] n).1])++(bJ f (l.drop (i+1)) (f l[i] n).2).1,(bJ f (l.drop (i+1)) (f l[i] n).2).2):=by
 rw[hm,List.drop_eq_getElem_cons h]
 simp only[bJ,List.append_assoc,List.cons_append,List.nil_append]
theorem qJ {l:List Ex} {i:Nat} (h:i<l.length):cw (l.drop i)=l[i].wt+cw (l.drop (i+1)):=by rw[List.drop_eq_getElem_cons h];rfl
theorem jL {l:List Bd} {i:Nat} (h:i<l.length):aM (l.drop i)=l[i].wt+aM (l.drop (i+1)):=by rw[List.drop_eq_getElem_cons h];rfl
theorem qf {l:List Al} {i:Nat} (h:i<l.length):cU (l.drop i)=l[i].wt+cU (l.drop (i+1)):=by rw[List.drop_eq_getElem_cons h];rfl
theorem cV {H L:List ax} {n0:Nat} {S:List Ex} {B:List Bd} {A:List Al} {b0 b1:ax} (hl:H.length=n0) (kd:Int) (nm:aE) (nn op:Int) (names:List aE):
 cQ (H++(b0::b1:: .cells 0 8 (ag S):: .cells 0 9 (ah B):: .cells 0 12 (aw A)::L)) n0 [] [.int .i64 kd,.str nm,.int .i64 nn,.int .i64 op,.list 1 (names.map .str),.sl (n0+2) 0 0 S.length,.sl (n0+3) 0 0 B.length,.sl (n0+4) 0 0 A.length] (Ex.mk kd nm nn op names S B A).cells:=by
 subst hl
 refine .cons _ _ _ _ (.same _ rfl) (.cons _ _ _ _ (.same _ rfl) (.cons _ _ _ _ (.same _ rfl) (.cons _ _ _ _ (.same _ rfl) (.cons _ _ _ _ (.same _ jF) (.cons _ _ _ _ ?_ (.cons _ _ _ _ ?_ (.cons _ _ _ _ ?_ .nil)))))))
 ·exact bE.sf (by rw[bZ];rfl) (by omega) (by simp) (by rw[List.drop_zero,List.take_of_length_le (by simp[bh])]) (dF _ _)
 ·exact bE.sf (by rw[bZ];rfl) (by omega) (by simp) (by rw[List.drop_zero,List.take_of_length_le (by simp[aV])]) (cI _ _)
 ·exact bE.sf (by rw[bZ];rfl) (by omega) (by simp) (by rw[List.drop_zero,List.take_of_length_le (by simp[bG])]) (fN _ _)
theorem sG (G:Gl) (hG:au G) (its:Nat→aE) (hits:∀ n,n<4294967296→(its n).length≤20∧∀ H,af Tryz.prog G 82 [.int .i64 (n:Int)] H (fun r H'=>H'=H∧r= .str (its n))) (k:List Od) (hk:∀ s,vT (cN k s)) (hkn:∀ s,(cN k s).bN.length<4294967296):∀ m,Lq G its k m
 |0,e,_,_,_,_,_,h,_,_,_,_,_=>absurd e.b9 (by omega)
 |m+1,e,H,kb,sb,g0,nx0,hm,hw,hs,hnx,h1,h2=>by
  have hrec:=sG G hG its hits k hk hkn m
  have hi:=fun n h=>(hits n h).1
  obtain⟨kd,nm,nn,op,names,ae,binds,alts⟩:=e
  have hlen:=Ex.cm kd nm nn op names ae binds alts
  rw[mU,Bool.and_eq_true,List.all_eq_true,Ex.bM] at hs
  obtain⟨hs1,hs2⟩:=hs
  have hww:(Ex.mk kd nm nn op names ae binds alts).wt=1+nm.length+db names+cw ae+aM binds+cU alts:=by simp only[Ex.wt]
  have hthr:bF its k (m+1) (.mk kd nm nn op names ae binds alts) nx0=mc its k kd nm nn op names (bJ (bF its k m) ae nx0).1 (bJ (kl (bF its k m)) binds (bJ (bF its k m) ae nx0).2).1
   (bJ (vO (bF its k m)) alts (bJ (kl (bF its k m)) binds (bJ (bF its k m) ae nx0).2).2).1 (bJ (vO (bF its k m)) alts (bJ (kl (bF its k m)) binds (bJ (bF its k m) ae nx0).2).2).2:=rfl
  rw[hthr]
  clear hthr
  have hfw:=l6 its hi k hk m
  obtain⟨Q,q0,qd,hlenQ,qx,qc⟩:=Nb h1 h2
  simp only[qd]
  rw[← q0]
  refine af.aD TB [] aA _ Tryz.func34 rfl (by decide) Tryz.ntmps34 (by simp) rfl (by simp only[ap,Nat.reduceAdd];rfl) fun C R' hR hC hcl hB=>?_;have X:=aF;have hC':=congrArg List.length hC
  have hC':=hC'.trans (hlenQ _)
  have hcls:∀ nx,closed (Q nx):=fun nx=>qc (q0 ▸ hcl) nx
  have l1:=(List.getElem?_eq_some_iff.1 h1).1
  have l2:=(List.getElem?_eq_some_iff.1 h2).1
  clear q0 h1 h2
  generalize hn0:H.length=n0 at*
  have hx21:=hlenQ
  have hx22:∀ nx L,(Q nx++L)[n0]? =L[0]? :=fun nx L=>by rw[← hlenQ nx];exact cS _ _
  have hx23:∀ nx L k,(Q nx++L)[n0+k]? =L[k]? :=fun nx L k=>by rw[← hlenQ nx];exact bZ _ _ _
  have hx24:∀ nx L x,(Q nx++L).set n0 x=Q nx++L.set 0 x:=fun nx L x=>by rw[← hlenQ nx];exact fB _ _ _
  have hx25:∀ nx L k x,(Q nx++L).set (n0+k) x=Q nx++L.set k x:=fun nx L k x=>by rw[← hlenQ nx];exact cB _ _ _ _
  have X:=And.intro aF (And.intro qx (And.intro hx21 (And.intro hx22 (And.intro hx23 (And.intro hx24 hx25)))))
  (refine run ?_;with_reducible repeat' first|exact trivial|(apply ad.mk<;>intro hb)|apply av.mk)
  refine du (A7 G hG ae _ (by omega)) ?_
  rintro v H' ⟨rfl,rfl⟩
  simp only[List.append_assoc,List.cons_append,List.nil_append,List.length_append,List.length_cons,List.length_nil,List.length_set,X,Nat.reduceAdd]
  (refine run ?_;with_reducible repeat' first|exact trivial|(apply ad.mk<;>intro hb)|apply av.mk)
  refine du (A6 G hG binds _ (by omega)) ?_
  rintro v H' ⟨rfl,rfl⟩
  simp only[List.append_assoc,List.cons_append,List.nil_append,List.length_append,List.length_cons,List.length_nil,List.length_set,X,Nat.reduceAdd]
  (refine run ?_;with_reducible repeat' first|exact trivial|(apply ad.mk<;>intro hb)|apply av.mk)
  refine du (A5 G hG alts _ (by omega)) ?_
  rintro v H' ⟨rfl,rfl⟩
  simp only[List.append_assoc,List.cons_append,List.nil_append,List.length_append,List.length_cons,List.length_nil,List.length_set,X,Nat.reduceAdd]
  (refine run ?_;with_reducible repeat' first|exact trivial|(apply ad.mk<;>intro hb)|apply av.mk)
  refine az (fun a:Nat×List Ex×Nat=>[(0,.ptr sb g0 0 0),(3,.ptr n0 0 0 0),(4,.ptr (n0+1) 0 0 0),(27,.int .i64 ae.length),(28,.int .i64 (a.1:Int))])
   (fun a=>Q a.2.2++[.cells 0 8 [.agg [.int .i64 kd,.str nm,.int .i64 nn,.int .i64 op,.list 1 (names.map .str),.sl (n0+2) 0 0 ae.length,.sl (n0+3) 0 0 binds.length,.sl (n0+4) 0 0 alts.length]],.cells 0 8 [.agg [.int .i64 0,.str [],.int .i64 0,.int .i64 0,.list 1 [],.list 8 [],.list 9 [],.list 12 []]],.cells 0 8 (ag (a.2.1++ae.drop a.1)),.cells 0 9 (ah binds),.cells 0 12 (aw alts)]) (fun a=>ae.length - a.1)
   (fun a=>(a.1≤ae.length∧a.2.1.length=a.1∧a.2.2+cw (ae.drop a.1)≤nx0+cw ae)∧bJ (bF its k m) ae nx0=(a.2.1++(bJ (bF its k m) (ae.drop a.1) a.2.2).1,(bJ (bF its k m) (ae.drop a.1) a.2.2).2)) (0,[],nx0) ⟨⟨Nat.zero_le _,rfl,Nat.le_refl _⟩,rfl⟩ ?_ ?_
  ·simp only[List.drop_zero,List.nil_append]
   exact aY (n0:=n0) [(n0,0),(n0+1,0),(n0+2,0),(n0+3,0),(n0+4,0)] hG hB hC' (hcls _) (hn:=hlenQ _) (hd:=BB n0)
  rintro K ⟨i,D,nx⟩ ⟨⟨hi1,hD,hnw⟩,hmp⟩ hK
  simp only at hi1 hD hnw hmp
  dsimp only
  rcases Nat.lt_or_ge i ae.length with hlt|hge
  ·have hmem:=List.getElem_mem hlt
   have hxw:=eo hmem
   have hdr:=qJ hlt
   have hxs:=hs2 _ (List.mem_append_left _ hmem)
   have hcall:=fun L=>hrec ae[i] (Q nx++L) kb sb g0 nx (by omega) (by omega) hxs (by omega) (qx.1 _ _) (qx.2.1 _ _)
   obtain⟨hw1,hw2⟩:=hfw ae[i] nx (by omega) hxs (by omega)
   have hmp2:=fX hlt hmp
   have hst:=fun y=>uY hD hlt y
   have hcg:=w9 hD hlt
   have hct:=uZ hD hi1
   generalize ae[i]=x at*
   generalize bF its k m x nx=yy at*
   obtain⟨y,nx2⟩:=yy
   simp only at hw1 hw2 hmp2 hcall
   have X:=And.intro (And.intro aF (And.intro qx (And.intro hx21 (And.intro hx22 (And.intro hx23 (And.intro hx24 hx25)))))) (And.intro hcg hct)
   (refine run ?_;with_reducible repeat' first|exact trivial|(apply ad.mk<;>intro hb)|apply av.mk)
   refine du (hcall _) ?_
   rintro v H' ⟨rfl,rfl⟩
   rw[qx.2.2]
   have X:=And.intro (And.intro aF (And.intro qx (And.intro hx21 (And.intro hx22 (And.intro hx23 (And.intro hx24 hx25)))))) (And.intro hcg (And.intro hct (hst y)))
   (refine run ?_;with_reducible repeat' first|exact trivial|(apply ad.mk<;>intro hb)|apply av.mk)
   refine hK _ _ (i+1,D++[y],nx2) (by simp only;omega) ⟨⟨by simp only;omega,by simp only[List.length_append,List.length_cons,List.length_nil];omega,by simp only;omega⟩,hmp2⟩ ?_
   simp only[List.append_assoc,List.cons_append,List.nil_append]
   exact aY (n0:=n0) [(n0,0),(n0+1,0),(n0+2,0),(n0+3,0),(n0+4,0)] hG hB hC' (hcls _) (hn:=hlenQ _) (hd:=BB n0)
  clear hK
  have hni:¬ (i:Int)<(ae.length:Int):=by omega
  rw[List.drop_eq_nil_of_le hge] at hmp hnw ⊢
  simp only[bJ,List.append_nil] at hmp ⊢
  rw[hmp] at hR
  simp only at hR
  have hSl:D.length=ae.length:=by omega
  have a1:=(gw (bF its k m) Ex.wt ae nx0 (fun x hx n' hn'=>by
   have h1:=eo hx
   rw[cE] at h1
   rw[cE] at hww
   exact hfw x n' (by omega) (hs2 x (List.mem_append_left _ hx)) (by have:=x.b9;omega)))
  rw[hmp] at a1
  simp only at a1
  obtain⟨a1,hnw1⟩:=a1
  clear hmp
  generalize D=S at*
  rw[← cE] at hnw1
  clear hnw
  generalize hnx1:nx=nx1 at*
  clear hnx1
  rw[show ae.length=S.length from hSl.symm]
  have X:=And.intro (And.intro aF (And.intro qx (And.intro hx21 (And.intro hx22 (And.intro hx23 (And.intro hx24 hx25)))))) (show ¬ ((S.length:Nat):Int)<(S.length:Int) from Int.lt_irrefl _)
  rw[show(i:Int)=(S.length:Int) by omega]
  clear hni
  (refine run ?_;with_reducible repeat' first|exact trivial|(apply ad.mk<;>intro hb)|apply av.mk)
  refine az (fun a:Nat×List Bd×Nat=>[(0,.ptr sb g0 0 0),(3,.ptr n0 0 0 0),(4,.ptr (n0+1) 0 0 0),(45,.int .i64 binds.length),(46,.int .i64 (a.1:Int))])
   (fun a=>Q a.2.2++[.cells 0 8 [.agg [.int .i64 kd,.str nm,.int .i64 nn,.int .i64 op,.list 1 (names.map .str),.sl (n0+2) 0 0 S.length,.sl (n0+3) 0 0 binds.length,.sl (n0+4) 0 0 alts.length]],.cells 0 8 [.agg [.int .i64 0,.str [],.int .i64 0,.int .i64 0,.list 1 [],.list 8 [],.list 9 [],.list 12 []]],.cells 0 8 (ag S),.cells 0 9 (ah (a.2.1++binds.drop a.1)),.cells 0 12 (aw alts)]) (fun a=>binds.length - a.1)
   (fun a=>(a.1≤binds.length∧a.2.1.length=a.1∧a.2.2+aM (binds.drop a.1)≤nx1+aM binds)∧bJ (kl (bF its k m)) binds nx1=(a.2.1++(bJ (kl (bF its k m)) (binds.drop a.1) a.2.2).1,(bJ (kl (bF its k m)) (binds.drop a.1) a.2.2).2)) (0,[],nx1) ⟨⟨Nat.zero_le _,rfl,Nat.le_refl _⟩,rfl⟩ ?_ ?_
  ·simp only[List.drop_zero,List.nil_append]
   exact aY (n0:=n0) [(n0,0),(n0+1,0),(n0+2,0),(n0+3,0),(n0+4,0)] hG hB hC' (hcls _) (hn:=hlenQ _) (hd:=BB n0)
  rintro K ⟨i,D,nx⟩ ⟨⟨hi1,hD,hnw⟩,hmp⟩ hK
  simp only at hi1 hD hnw hmp
  dsimp only
  rcases Nat.lt_or_ge i binds.length with hlt|hge
  ·have hmem:=List.getElem_mem hlt
   have hxw:=df hmem
   have hxg:=binds[i].di
   have hdr:=jL hlt
   have hxs:=hs2 _ (List.mem_append_right _ (List.mem_append_left _ (List.mem_map_of_mem hmem)))
   have hcall:=fun L=>hrec binds[i].e (Q nx++L) kb sb g0 nx (by omega) (by omega) hxs (by omega) (qx.1 _ _) (qx.2.1 _ _)
   obtain⟨hw1,hw2⟩:=hfw binds[i].e nx (by omega) hxs (by omega)
   have hmp2:=fX hlt hmp
   have hst:=fun y=>uH hD hlt y
   have hcg:=we hD hlt
   have hct:=uI hD hi1
   simp only[kl] at hmp2
   generalize binds[i].wt=wb at*
   generalize binds[i].e=x at*
   generalize binds[i].name=xn at*
   generalize bF its k m x nx=yy at*
   obtain⟨y,nx2⟩:=yy
   simp only at hw1 hw2 hmp2 hcall
   have X:=And.intro (And.intro aF (And.intro qx (And.intro hx21 (And.intro hx22 (And.intro hx23 (And.intro hx24 hx25)))))) (And.intro hcg hct)
   (refine run ?_;with_reducible repeat' first|exact trivial|(apply ad.mk<;>intro hb)|apply av.mk)
   refine du (hcall _) ?_
   rintro v H' ⟨rfl,rfl⟩
   rw[qx.2.2]
   have X:=And.intro (And.intro aF (And.intro qx (And.intro hx21 (And.intro hx22 (And.intro hx23 (And.intro hx24 hx25)))))) (And.intro hcg (And.intro hct (hst y)))
   (refine run ?_;with_reducible repeat' first|exact trivial|(apply ad.mk<;>intro hb)|apply av.mk)
   refine hK _ _ (i+1,D++[.mk xn y],nx2) (by simp only;omega) ⟨⟨by simp only;omega,by simp only[List.length_append,List.length_cons,List.length_nil];omega,by simp only;omega⟩,hmp2⟩ ?_
   simp only[List.append_assoc,List.cons_append,List.nil_append]
   exact aY (n0:=n0) [(n0,0),(n0+1,0),(n0+2,0),(n0+3,0),(n0+4,0)] hG hB hC' (hcls _) (hn:=hlenQ _) (hd:=BB n0)
  clear hK
  have hni:¬ (i:Int)<(binds.length:Int):=by omega
  rw[List.drop_eq_nil_of_le hge] at hmp hnw ⊢
  simp only[bJ,List.append_nil] at hmp ⊢
  rw[hmp] at hR
  simp only at hR
  have hBl:D.length=binds.length:=by omega
  have b1:=(gw (kl (bF its k m)) Bd.wt binds nx1 (fun x hx n' hn'=>by
   have h1:=df hx
   rw[cg] at h1
   rw[cg] at hww
   have h2:=x.di
   have:=hfw x.e n' (by omega) (hs2 _ (List.mem_append_right _ (List.mem_append_left _ (List.mem_map_of_mem hx)))) (by omega)
   obtain⟨s,e⟩:=x
   simp only[kl,Bd.wt,Bd.e,Bd.name] at this h2 ⊢
   omega)).1
  rw[hmp] at b1
  simp only at b1
  clear hmp
  generalize D=B at*
  have hnw2:nx≤nx1+aM binds:=by omega
  clear hnw
  generalize hnx2:nx=nx2 at*
  clear hnx2
  rw[show binds.length=B.length from hBl.symm]
  have X:=And.intro (And.intro aF (And.intro qx (And.intro hx21 (And.intro hx22 (And.intro hx23 (And.intro hx24 hx25)))))) (show ¬ ((B.length:Nat):Int)<(B.length:Int) from Int.lt_irrefl _)
  rw[show(i:Int)=(B.length:Int) by omega]
  clear hni
  (refine run ?_;with_reducible repeat' first|exact trivial|(apply ad.mk<;>intro hb)|apply av.mk)
  refine az (fun a:Nat×List Al×Nat=>[(0,.ptr sb g0 0 0),(3,.ptr n0 0 0 0),(4,.ptr (n0+1) 0 0 0),(65,.int .i64 alts.length),(66,.int .i64 (a.1:Int))])
   (fun a=>Q a.2.2++[.cells 0 8 [.agg [.int .i64 kd,.str nm,.int .i64 nn,.int .i64 op,.list 1 (names.map .str),.sl (n0+2) 0 0 S.length,.sl (n0+3) 0 0 B.length,.sl (n0+4) 0 0 alts.length]],.cells 0 8 [.agg [.int .i64 0,.str [],.int .i64 0,.int .i64 0,.list 1 [],.list 8 [],.list 9 [],.list 12 []]],.cells 0 8 (ag S),.cells 0 9 (ah B),.cells 0 12 (aw (a.2.1++alts.drop a.1))]) (fun a=>alts.length - a.1)
   (fun a=>(a.1≤alts.length∧a.2.1.length=a.1∧a.2.2+cU (alts.drop a.1)≤nx2+cU alts)∧bJ (vO (bF its k m)) alts nx2=(a.2.1++(bJ (vO (bF its k m)) (alts.drop a.1) a.2.2).1,(bJ (vO (bF its k m)) (alts.drop a.1) a.2.2).2)) (0,[],nx2) ⟨⟨Nat.zero_le _,rfl,Nat.le_refl _⟩,rfl⟩ ?_ ?_
  ·simp only[List.drop_zero,List.nil_append]
   exact aY (n0:=n0) [(n0,0),(n0+1,0),(n0+2,0),(n0+3,0),(n0+4,0)] hG hB hC' (hcls _) (hn:=hlenQ _) (hd:=BB n0)
  rintro K ⟨i,D,nx⟩ ⟨⟨hi1,hD,hnw⟩,hmp⟩ hK
  simp only at hi1 hD hnw hmp
  dsimp only
  rcases Nat.lt_or_ge i alts.length with hlt|hge
  ·have hmem:=List.getElem_mem hlt
   have hxw:=ek hmem
   have hxg:=alts[i].di
   have hdr:=qf hlt
   have hxs:=hs2 _ (List.mem_append_right _ (List.mem_append_right _ (List.mem_map_of_mem hmem)))
   have hcall:=fun L=>hrec alts[i].body (Q nx++L) kb sb g0 nx (by omega) (by omega) hxs (by omega) (qx.1 _ _) (qx.2.1 _ _)
   obtain⟨hw1,hw2⟩:=hfw alts[i].body nx (by omega) hxs (by omega)
   have hmp2:=fX hlt hmp
   have hst:=fun y=>ux hD hlt y
   have hcg:=vW hD hlt
   have hct:=uz hD hi1
   simp only[vO] at hmp2
   generalize alts[i]=aa at*
   obtain⟨ak,an,ann,ans,x⟩:=aa
   simp only[Al.kind,Al.name,Al.n,Al.names,Al.body] at hmp2 hst hcg hcall hw1 hw2 hxg
   generalize bF its k m x nx=yy at*
   obtain⟨y,nx3⟩:=yy
   simp only at hw1 hw2 hmp2 hcall
   have X:=And.intro (And.intro aF (And.intro qx (And.intro hx21 (And.intro hx22 (And.intro hx23 (And.intro hx24 hx25)))))) (And.intro hcg hct)
   (refine run ?_;with_reducible repeat' first|exact trivial|(apply ad.mk<;>intro hb)|apply av.mk)
   refine du (hcall _) ?_
   rintro v H' ⟨rfl,rfl⟩
   rw[qx.2.2]
   have X:=And.intro (And.intro aF (And.intro qx (And.intro hx21 (And.intro hx22 (And.intro hx23 (And.intro hx24 hx25)))))) (And.intro hcg (And.intro hct (hst y)))
   (refine run ?_;with_reducible repeat' first|exact trivial|(apply ad.mk<;>intro hb)|apply av.mk)
   refine hK _ _ (i+1,D++[.mk ak an ann ans y],nx3) (by simp only;omega) ⟨⟨by simp only;omega,by simp only[List.length_append,List.length_cons,List.length_nil];omega,by simp only;omega⟩,hmp2⟩ ?_
   simp only[List.append_assoc,List.cons_append,List.nil_append]
   exact aY (n0:=n0) [(n0,0),(n0+1,0),(n0+2,0),(n0+3,0),(n0+4,0)] hG hB hC' (hcls _) (hn:=hlenQ _) (hd:=BB n0)
  clear hK
  have hni:¬ (i:Int)<(alts.length:Int):=by omega
  rw[List.drop_eq_nil_of_le hge] at hmp hnw ⊢
  simp only[bJ,List.append_nil] at hmp ⊢
  rw[hmp] at hR
  simp only at hR
  have hAl:D.length=alts.length:=by omega
  clear hmp
  generalize D=A at*
  have hnw3:nx≤nx2+cU alts:=by omega
  clear hnw
  generalize hnx3:nx=nx3 at*
  clear hnx3
  rw[show alts.length=A.length from hAl.symm]
  have hna:¬ ((A.length:Nat):Int)<(A.length:Int):=Int.lt_irrefl _
  rw[show(i:Int)=(A.length:Int) by omega]
  clear hni hfw hrec
  have hsW:cw S≤51*cw ae:=by rw[cE,cE];omega
  have hbW:aM B≤51*aM binds:=by rw[cg,cg];omega
  clear a1 b1
  have hnode:(kd=5∧binds.length=1)∨(kd=4)∨(¬ (kd=5∧binds.length=1)∧¬ kd=4):=by
   by_cases h5:kd=5∧binds.length=1
   ·exact .inl h5
   ·by_cases h4:kd=4
    ·exact .inr (.inl h4)
    ·exact .inr (.inr ⟨h5,h4⟩)
  rcases hnode with⟨h5,hb1⟩|h4|⟨h5,h4⟩
  rotate_left
  ·subst h4
   have hcs:=fun L=>Ff G hG k kb (Q nx3++(.cells 0 8 [.agg [.int .i64 4,.str nm,.int .i64 nn,.int .i64 op,.list 1 (names.map .str),.sl (n0+2) 0 0 S.length,.sl (n0+3) 0 0 B.length,.sl (n0+4) 0 0 A.length]]:: .cells 0 8 [.agg [.int .i64 0,.str [],.int .i64 0,.int .i64 0,.list 1 [],.list 8 [],.list 9 [],.list 12 []]]:: .cells 0 8 (ag S):: .cells 0 9 (ah B):: .cells 0 12 (aw A)::L)) (qx.1 _ _) (n0+2) 0 S (by rw[hx23];rfl) (by omega) 4 nm nn op names B A (.sl (n0+3) 0 0 B.length) (.sl (n0+4) 0 0 A.length)
    (by simp only[SV.under,List.length_append,hlenQ,List.length_cons,List.length_nil,decide_eq_true_eq];omega) (by simp only[SV.under,List.length_append,hlenQ,List.length_cons,List.length_nil,decide_eq_true_eq];omega) rfl rfl
   have hn4:mc its k 4 nm nn op names S B A nx3=if (cu k (.mk 4 nm nn op names S B A)).2=true then (kD (cZ its (cu k (.mk 4 nm nn op names S B A)).1.bN S nx3).1 (.mk 4 nm nn op names (cZ its (cu k (.mk 4 nm nn op names S B A)).1.bN S nx3).2.1 B A),(cZ its (cu k (.mk 4 nm nn op names S B A)).1.bN S nx3).2.2) else (.mk 4 nm nn op names S B A,nx3):=by
    unfold mc
    rw[if_neg (fun h=>by have:=h.1;omega)]
    by_cases h:(cu k (.mk 4 nm nn op names S B A)).2=true
    ·rw[if_pos ⟨rfl,h⟩,if_pos h]
    ·rw[if_neg (fun h2=>h h2.2),if_neg h]
   rw[hn4] at hR
   clear hn4
   cases hc:(cu k (.mk 4 nm nn op names S B A)).2
   ·rw[hc] at hcs hR
    rw[if_neg (by decide)] at hR
    have X:=And.intro (And.intro aF (And.intro qx (And.intro hx21 (And.intro hx22 (And.intro hx23 (And.intro hx24 hx25)))))) hna
    (refine run ?_;with_reducible repeat' first|exact trivial|(apply ad.mk<;>intro hb)|apply av.mk)
    all_goals
     refine du (hcs _) ?_
     rintro v H' ⟨rfl,rfl⟩
     (refine run ?_;with_reducible repeat' first|exact trivial|(apply ad.mk<;>intro hb)|apply av.mk)
     exact Fin.bY (n0:=n0) hR (hlenQ _) hC' (hcls _) (bE.agg _ _ (cV (hlenQ _) 4 nm nn op names)) ⟨rfl,rfl⟩
   ·obtain⟨hr,hl⟩:=qn hk hc
    rw[hc] at hcs hR
    rw[if_pos rfl] at hR
    generalize (cu k (.mk 4 nm nn op names S B A)).1=oo at*
    obtain⟨on,oa,ns⟩:=oo
    simp only at hr hl hR
    have hgl:=(nj its hi ns S nx3 (fun x hx=>by have:=hr x hx;omega) (by omega)).2.2
    have hgv:=Aq G hG its ns S nx3 4 nn op nm names (.sl (n0+3) 0 0 B.length) (.sl (n0+4) 0 0 A.length) (.map kb) (Q nx3++[.cells 0 8 [.agg [.int .i64 4,.str nm,.int .i64 nn,.int .i64 op,.list 1 (names.map .str),.sl (n0+2) 0 0 S.length,.sl (n0+3) 0 0 B.length,.sl (n0+4) 0 0 A.length]],.cells 0 8 [.agg [.int .i64 0,.str [],.int .i64 0,.int .i64 0,.list 1 [],.list 8 [],.list 9 [],.list 12 []]],.cells 0 8 (ag S),.cells 0 9 (ah B),.cells 0 12 (aw A),.cells 0 3 [.agg [.str on,.int .i64 oa,.list 1 (cc ns)]]]) (n0+2) 0 sb g0
     (by rw[hx23];rfl) (qx.2.1 _ _) (by simp only[SV.under,List.length_append,hlenQ,decide_eq_true_eq];omega) (by simp only[SV.under,List.length_append,hlenQ,List.length_cons,List.length_nil,decide_eq_true_eq];omega) (by simp only[SV.under,List.length_append,hlenQ,List.length_cons,List.length_nil,decide_eq_true_eq];omega) rfl rfl
     hr (by omega) (by omega) (by omega) (fun n h1 h2=>by have:=hits n (by omega);exact⟨by omega,this.2⟩)
    generalize cZ its ns S nx3=FF at*
    obtain⟨PF,SF,nxF⟩:=FF
    simp only at hgl hR hgv
    have hwl:(lJ PF [.int .i64 4,.str nm,.int .i64 nn,.int .i64 op,.list 1 (names.map .str),.sl (n0+2) 0 0 S.length,.sl (n0+3) 0 0 B.length,.sl (n0+4) 0 0 A.length]).length=8:=Ce PF rfl
    have hcl8:(Od.mk on oa ns).cells=[.str on,.int .i64 oa,.list 1 (cc ns)]:=rfl
    rw[hcl8] at hcs
    have X:=And.intro (And.intro aF (And.intro qx (And.intro hx21 (And.intro hx22 (And.intro hx23 (And.intro hx24 hx25)))))) hna
    (refine run ?_;with_reducible repeat' first|exact trivial|(apply ad.mk<;>intro hb)|apply av.mk)
    all_goals
     refine du (hcs _) ?_
     rintro v H' ⟨rfl,rfl⟩
     have X:=And.intro (And.intro aF (And.intro qx (And.intro hx21 (And.intro hx22 (And.intro hx23 (And.intro hx24 hx25)))))) (And.intro (eF n0 ns) hwl)
     (refine run ?_;with_reducible repeat' first|exact trivial|(apply ad.mk<;>intro hb)|apply av.mk)
     refine bt hgv ?_
     rintro v H' ⟨rfl,rfl⟩
     rw[hx25,qx.2.2]
     simp only[List.set_cons_succ,List.set_cons_zero]
     (refine run ?_;with_reducible repeat' first|exact trivial|(apply ad.mk<;>intro hb)|apply av.mk)
     refine Fin.bY (n0:=n0) hR (hlenQ _) hC' (hcls _) (y:= .agg (lJ PF (Ex.mk 4 nm nn op names SF B A).cells)) (bE.agg _ _ (C7 PF ?_)) ⟨rfl,?_⟩
     ·rw[← hgl]
      exact cV (hlenQ _) 4 nm nn op names
     ·rw[← pA];rfl
  ·have hn0':mc its k kd nm nn op names S B A nx3=(.mk kd nm nn op names S B A,nx3):=by
    unfold mc
    rw[if_neg (fun h=>h5 ⟨h.1,by omega⟩),if_neg (fun h=>h4 h.1)]
   rw[hn0'] at hR
   by_cases hk5:kd=5
   ·have hb1:¬ (B.length:Int)=1:=fun h=>h5 ⟨hk5,by omega⟩
    subst hk5
    have X:=And.intro (And.intro aF (And.intro qx (And.intro hx21 (And.intro hx22 (And.intro hx23 (And.intro hx24 hx25)))))) (And.intro hna hb1)
    (refine run ?_;with_reducible repeat' first|exact trivial|(apply ad.mk<;>intro hb)|apply av.mk)
    all_goals exact Fin.bY (n0:=n0) hR (hlenQ _) hC' (hcls _) (bE.agg _ _ (cV (hlenQ _) 5 nm nn op names)) ⟨rfl,rfl⟩
   ·have X:=And.intro (And.intro aF (And.intro qx (And.intro hx21 (And.intro hx22 (And.intro hx23 (And.intro hx24 hx25)))))) (And.intro hna (And.intro hk5 h4))
    (refine run ?_;with_reducible repeat' first|exact trivial|(apply ad.mk<;>intro hb)|apply av.mk)
    all_goals exact Fin.bY (n0:=n0) hR (hlenQ _) hC' (hcls _) (bE.agg _ _ (cV (hlenQ _) kd nm nn op names)) ⟨rfl,rfl⟩
  ·subst h5
   have hsl:ae.length=1:=by
    simp only[dN,Ex.kind,il,Bool.and_eq_true] at hs1
    simp at hs1
    omega
   have hB1:(B.length:Int)=1:=by omega
   have hS1:(S.length:Int)=1:=by omega
   obtain⟨s0,hs0⟩:=List.length_eq_one_iff.1 (hSl.trans hsl)
   obtain⟨bb,hbb⟩:=List.length_eq_one_iff.1 (hBl.trans hb1)
   obtain⟨bn,be⟩:=bb
   have hSc:(ag S)[0]? =some (.agg s0.cells):=by rw[hs0];rfl
   have hBc:(ah B)[0]? =some (.agg (.str bn::be.cells)):=by rw[hbb];rfl
   have hs0w:s0.wt<4294967296:=by rw[hs0] at hsW;simp only[cw] at hsW;omega
   have hbew:be.wt<4294967296:=by rw[hbb] at hbW;simp only[aM,Bd.wt] at hbW;omega
   have hn5:mc its k 5 nm nn op names S B A nx3=(if By k (.mk bn be) s0 then kr bn be s0 else .mk 5 nm nn op names S B A,nx3):=by
    unfold mc
    rw[if_pos ⟨rfl,by omega⟩,hs0,hbb];rfl
   rw[hn5] at hR
   obtain⟨k2,n2,nn2,op2,ns2,ss2,bs2,as2⟩:=be
   have hlb:By k (.mk bn (.mk k2 n2 nn2 op2 ns2 ss2 bs2 as2)) s0=((decide (k2=4)||decide (k2=5)||decide (k2=6)||decide (k2=8))&&decide ((jX k s0).head?=some bn)&&!decide (bn∈cX (.mk k2 n2 nn2 op2 ns2 ss2 bs2 as2))):=rfl
   rw[hlb] at hR
   have hfst:=fun L=>qR (qP G hG k hkn s0.wt) s0 kb (Q nx3++L) (Nat.le_refl _) hs0w (qx.1 _ _)
   have hfS:aZ aU k s0.wt s0=jX k s0:=rfl
   rw[hfS] at hfst
   have c1:=fun H=>af.Lw (bp _ _) (List.length_map ..) (Fm G hG (.mk k2 n2 nn2 op2 ns2 ss2 bs2 as2) H (by omega))
   have hfl:(cX (.mk k2 n2 nn2 op2 ns2 ss2 bs2 as2)).length≤(Ex.mk k2 n2 nn2 op2 ns2 ss2 bs2 as2).wt:=by
    have:=l7 (Ex.mk k2 n2 nn2 op2 ns2 ss2 bs2 as2).wt (.mk k2 n2 nn2 op2 ns2 ss2 bs2 as2) ([],[])
    rw[cX,fL]
    simpa using this
   have c2:=fun H=>mh G (cX (.mk k2 n2 nn2 op2 ns2 ss2 bs2 as2)) bn H (by omega)
   have hah:=fun L hL=>vV G hG (.mk k2 n2 nn2 op2 ns2 ss2 bs2 as2) bn s0.cells s0.bS (Q nx3++L) hL
   have hsu:=fun n=>Ex.bD n s0
   generalize cX (.mk k2 n2 nn2 op2 ns2 ss2 bs2 as2)=FR at*
   generalize jX k s0=F at*
   have hs8:=s0.bS
   have hsd:=s0.eD
   have hbe:(kr bn (.mk k2 n2 nn2 op2 ns2 ss2 bs2 as2) s0).sv= .agg (Cr (.mk k2 n2 nn2 op2 ns2 ss2 bs2 as2) bn s0.cells):=rfl
   have hbeu:=fun n=>Ex.bD n (.mk k2 n2 nn2 op2 ns2 ss2 bs2 as2)
   have hcx:(Ex.mk k2 n2 nn2 op2 ns2 ss2 bs2 as2).cells=[.int .i64 k2,.str n2,.int .i64 nn2,.int .i64 op2,.list 1 (ns2.map .str),.list 8 (ag ss2),.list 9 (ah bs2),.list 12 (aw as2)]:=rfl
   rw[hcx] at hBc
   by_cases hwk:k2=4∨k2=5∨k2=6∨k2=8
   rotate_left
   ·have hw4:¬ k2=4:=fun h=>hwk (.inl h)
    have hw5:¬ k2=5:=fun h=>hwk (.inr (.inl h))
    have hw6:¬ k2=6:=fun h=>hwk (.inr (.inr (.inl h)))
    have hw8:¬ k2=8:=fun h=>hwk (.inr (.inr (.inr h)))
    simp only[hw4,hw5,hw6,hw8,decide_false,Bool.or_self,Bool.false_and,Bool.false_eq_true,if_false] at hR
    have X:=And.intro (And.intro aF (And.intro qx (And.intro hx21 (And.intro hx22 (And.intro hx23 (And.intro hx24 hx25)))))) (And.intro hna (And.intro hB1 (And.intro hBc (And.intro hw4 (And.intro hw5 (And.intro hw6 hw8))))))
    (refine run ?_;with_reducible repeat' first|exact trivial|(apply ad.mk<;>intro hb)|apply av.mk)
    exact Fin.bY (n0:=n0) hR (hlenQ _) hC' (hcls _) (bE.agg _ _ (cV (hlenQ _) 5 nm nn op names)) ⟨rfl,rfl⟩
   have hwb:(decide (k2=4)||decide (k2=5)||decide (k2=6)||decide (k2=8))=true:=by
    rcases hwk with h|h|h|h<;>simp[h]
   rw[hwb,Bool.true_and] at hR
   have hcal:∀ (v:aE),decide (v∈FR)=true∨decide (v∈FR)=false:=fun v=>by by_cases h:v∈FR<;>simp[h]
   rcases hwk with rfl|rfl|rfl|rfl
   all_goals
    have X:=And.intro (And.intro aF (And.intro qx (And.intro hx21 (And.intro hx22 (And.intro hx23 (And.intro hx24 hx25)))))) (And.intro hna (And.intro hB1 (And.intro hBc hSc)))
    (refine run ?_;with_reducible repeat' first|exact trivial|(apply ad.mk<;>intro hb)|apply av.mk)
    refine du (hfst _) ?_
    rintro v H' ⟨rfl,rfl⟩
    cases F with
    |nil=>
     rw[show(decide (([]:List aE).head?=some bn))=false from rfl,Bool.false_and,if_neg Bool.false_ne_true] at hR
     have X:=And.intro (And.intro aF (And.intro qx (And.intro hx21 (And.intro hx22 (And.intro hx23 (And.intro hx24 hx25)))))) hna
     (refine run ?_;with_reducible repeat' first|exact trivial|(apply ad.mk<;>intro hb)|apply av.mk)
     exact Fin.bY (n0:=n0) hR (hlenQ _) hC' (hcls _) (bE.agg _ _ (cV (hlenQ _) 5 nm nn op names)) ⟨rfl,rfl⟩
    |cons f0 fr=>
     have hF0:((f0::fr).map SV.str)[0]? =some (.str f0):=rfl
     have hFl:(0:Int)<((f0::fr).length:Int):=by simp only[List.length_cons];omega
     have hfd:decide ((f0::fr).head?=some bn)=decide (f0=bn):=by simp only[List.head?_cons,Option.some.injEq]
     rw[hfd] at hR
     generalize f0::fr=F at*
     by_cases hfb:f0=bn
     rotate_left
     ·rw[decide_eq_false hfb,Bool.false_and,if_neg Bool.false_ne_true] at hR
      have X:=And.intro (And.intro aF (And.intro qx (And.intro hx21 (And.intro hx22 (And.intro hx23 (And.intro hx24 hx25)))))) (And.intro hna (And.intro hF0 (And.intro hFl hfb)))
      (refine run ?_;with_reducible repeat' first|exact trivial|(apply ad.mk<;>intro hb)|apply av.mk)
      exact Fin.bY (n0:=n0) hR (hlenQ _) hC' (hcls _) (bE.agg _ _ (cV (hlenQ _) 5 nm nn op names)) ⟨rfl,rfl⟩
     rw[decide_eq_true hfb,Bool.true_and] at hR
     by_cases hbf:bn∈FR
     ·rw[decide_eq_true hbf,Bool.not_true,if_neg Bool.false_ne_true] at hR
      rw[decide_eq_true hbf] at c2
      have X:=And.intro (And.intro aF (And.intro qx (And.intro hx21 (And.intro hx22 (And.intro hx23 (And.intro hx24 hx25)))))) (And.intro hna (And.intro hF0 (And.intro hFl hfb)))
      (refine run ?_;with_reducible repeat' first|exact trivial|(apply ad.mk<;>intro hb)|apply av.mk)
      exact Fin.bY (n0:=n0) hR (hlenQ _) hC' (hcls _) (bE.agg _ _ (cV (hlenQ _) 5 nm nn op names)) ⟨rfl,rfl⟩
     ·rw[decide_eq_false hbf,Bool.not_false,if_pos rfl] at hR
      rw[decide_eq_false hbf] at c2
      have X:=And.intro (And.intro aF (And.intro qx (And.intro hx21 (And.intro hx22 (And.intro hx23 (And.intro hx24 hx25)))))) (And.intro hna (And.intro hF0 (And.intro hFl (And.intro hfb (And.intro hSc hs8)))))
      (refine run ?_;with_reducible repeat' first|exact trivial|(apply ad.mk<;>intro hb)|apply av.mk)
      refine du (hah _ (hsu _)) ?_
      rintro v H' ⟨rfl,rfl⟩
      (refine run ?_;with_reducible repeat' first|exact trivial|(apply ad.mk<;>intro hb)|apply av.mk)
      exact Fin.bY (n0:=n0) hR (hlenQ _) hC' (hcls _) (.same _ (by simp only[bq,SV.under];exact iW _ _ _ (hsu _))) ⟨rfl,hbe.symm⟩
theorem F9 (G:Gl) (hG:au G) (e:Ex) (hw:e.wt<4294967296) (i:Nat) (hi:i<e.parts.length) (H:List ax):af Tryz.prog G 92 [e.sv,.int .i64 i] H (fun r H'=>H'=H∧r=e.parts[i].sv):=by
 obtain⟨kd,nm,nn,op,names,ae,binds,alts⟩:=e
 have hle:=Ex.cm kd nm nn op names ae binds alts
 have hpm:=Ex.bM kd nm nn op names ae binds alts
 have hpl:(Ex.mk kd nm nn op names ae binds alts).parts.length=ae.length+(binds.length+alts.length):=by rw[hpm];simp
 have hg:(Ex.mk kd nm nn op names ae binds alts).parts[i]? =some (Ex.mk kd nm nn op names ae binds alts).parts[i]:=List.getElem?_eq_getElem hi
 rw[hpl] at hi
 generalize (Ex.mk kd nm nn op names ae binds alts).parts[i]=x at*
 rw[hpm] at hg
 clear hpm hpl
 rcases Nat.lt_or_ge i ae.length with h1|h1
 ·rw[List.getElem?_append_left h1,List.getElem?_eq_getElem h1] at hg
  obtain rfl:=Option.some.inj hg
  refine af.aD TB [] aA _ Tryz.func92 rfl (by decide) Tryz.ntmps92 (by simp) rfl (by simp only[ap,Nat.reduceAdd];rfl) fun C R' hR hC hcl hB=>?_;have X:=aF;have hC':=congrArg List.length hC
  (refine run ?_;with_reducible repeat' first|exact trivial|(apply ad.mk<;>intro hb)|apply av.mk)
  exact aS (n0:=H.length) hR hC' hcl (.same _ (by simp only[bq];exact jF)) ⟨rfl,rfl⟩
 rw[List.getElem?_append_right h1] at hg
 rcases Nat.lt_or_ge i (ae.length+binds.length) with h2|h2
 ·obtain⟨j,rfl⟩:∃ j,i=ae.length+j:=⟨i - ae.length,by omega⟩
  have h3:j<binds.length:=by omega
  rw[Nat.add_sub_cancel_left,List.getElem?_append_left (by simpa using h3),List.getElem?_map,List.getElem?_eq_getElem h3] at hg
  obtain rfl:=Option.some.inj hg
  have hj:((ae.length+j:Nat):Int) - (ae.length:Int)=(j:Int):=by omega
  refine af.aD TB [] aA _ Tryz.func92 rfl (by decide) Tryz.ntmps92 (by simp) rfl (by simp only[ap,Nat.reduceAdd];rfl) fun C R' hR hC hcl hB=>?_;have X:=aF;have hC':=congrArg List.length hC
  have X:=And.intro X hj
  (refine run ?_;with_reducible repeat' first|exact trivial|(apply ad.mk<;>intro hb)|apply av.mk)
  all_goals first|exact aS (n0:=H.length) hR hC' hcl (.same _ (by simp only[bq];exact jF)) ⟨rfl,rfl⟩|(exfalso;omega)
 ·obtain⟨j,rfl⟩:∃ j,i=ae.length+(binds.length+j):=⟨i - ae.length - binds.length,by omega⟩
  have h3:j<alts.length:=by omega
  rw[Nat.add_sub_cancel_left,List.getElem?_append_right (by simp),List.length_map,Nat.add_sub_cancel_left,List.getElem?_map,List.getElem?_eq_getElem h3] at hg
  obtain rfl:=Option.some.inj hg
  have hj:((ae.length+(binds.length+j):Nat):Int) - (ae.length:Int)=((binds.length+j:Nat):Int):=by omega
  have hj2:((binds.length+j:Nat):Int) - (binds.length:Int)=(j:Int):=by omega
  refine af.aD TB [] aA _ Tryz.func92 rfl (by decide) Tryz.ntmps92 (by simp) rfl (by simp only[ap,Nat.reduceAdd];rfl) fun C R' hR hC hcl hB=>?_;have X:=aF;have hC':=congrArg List.length hC
  have X:=And.intro X (And.intro hj hj2)
  (refine run ?_;with_reducible repeat' first|exact trivial|(apply ad.mk<;>intro hb)|apply av.mk)
  all_goals first|exact aS (n0:=H.length) hR hC' hcl (.same _ (by simp only[bq];exact jF)) ⟨rfl,rfl⟩|(exfalso;omega)
def Lk (G:Gl) (m:Nat):Prop:=∀ (e:Ex) (H:List ax),e.wt≤m→e.wt<4294967296→af Tryz.prog G 63 [e.sv] H (fun r H'=>H'=H++[.cells 0 1 ((dL m e).map .str)]∧r= .sl H.length 0 0 (dL m e).length)
theorem pn (G:Gl) (hG:au G):∀ m,Lk G m
 |0,e,H,h,_=>absurd e.b9 (by omega)
 |m+1,e,H,hm,hw0=>by
  have hrec:=pn G hG m
  obtain⟨kd,nm,nn,op,names,ae,binds,alts⟩:=e
  have hle:=Ex.cm kd nm nn op names ae binds alts
  have hln:=dz (m+1) (.mk kd nm nn op names ae binds alts)
  have hpw:∀ p∈(Ex.mk kd nm nn op names ae binds alts).parts,p.wt≤m∧p.wt<4294967296:=fun p hp=>by have:=Ex.bT hp;exact⟨by omega,by omega⟩
  rw[Ex.bM] at hpw
  have eb:dL (m+1) (.mk kd nm nn op names ae binds alts)=(if kd=3 then names else [])++ae.flatMap (dL m)++binds.flatMap (fun b=>b.name::dL m b.e)++(if kd=6 then [nm] else [])++alts.flatMap (fun a=>a.names++dL m a.body):=rfl
  rw[eb] at hln ⊢
  clear eb
  have h3n:(if kd=3 then names else []).length≤names.length:=by split<;>simp
  generalize hl0:(if kd=3 then names else [])=l0 at*
  generalize hl5:(if kd=6 then [nm] else [])=l5 at*
  obtain⟨L1,a1,a2,a3,a4⟩:=fT (dL m) l0 ae
  rw[← a4] at hln ⊢
  obtain⟨L2,b1,b2,b3,b4⟩:=fT (fun b:Bd=>b.name::dL m b.e) (L1 ae.length) binds
  rw[← b4] at hln ⊢
  obtain⟨L4,d1,d2,d3,d4⟩:=fT (fun a:Al=>a.names++dL m a.body) (L2 binds.length++l5) alts
  rw[← d4] at hln ⊢
  rw[← a4] at a3
  rw[← b4] at b3
  rw[← d4] at d3
  have q4:(L2 binds.length).length+l5.length≤(L4 alts.length).length:=by have:=d3 0;rw[d1,List.length_append] at this;exact this
  have q2:(L1 ae.length).length≤(L2 binds.length).length:=by have:=b3 0;rw[b1] at this;exact this
  generalize hW:(Ex.mk kd nm nn op names ae binds alts).wt=W at*
  refine af.aD TB [3] aA _ Tryz.func63 rfl (by decide) Tryz.ntmps63 (by simp) rfl (by simp only[ap,Nat.reduceAdd];rfl) fun C R' hR hC hcl hB=>?_;have X:=aF;have hC':=congrArg List.length hC
  (refine dW ?_;with_reducible repeat' first|exact trivial|(apply ad.mk<;>intro hb)|apply av.mk)
  refine dQ (fun _:Unit=>[(1,.ptr H.length 0 0 0),(3,.sl (H.length+1) 0 0 l0.length)]) (fun _=>H++[.cells 0 8 [.agg [.int .i64 kd,.str nm,.int .i64 nn,.int .i64 op,.list 1 (names.map .str),.list 8 (ag ae),.list 9 (ah binds),.list 12 (aw alts)]],.cells 0 1 (l0.map .str)]) (fun _=>True) (fun K hK=>?_) (fun _ _=>?_)
  ·(refine bL ?_;with_reducible repeat' first|exact trivial|(apply ad.mk<;>intro hb)|apply av.mk)
   ·refine hK _ _ () trivial ?_
    rw[if_pos hb] at hl0
    subst hl0
    exact aY (n0:=H.length) [(H.length,0),(H.length+1,0)] hG hB hC' hcl
   ·refine hK _ _ () trivial ?_
    rw[if_neg hb] at hl0
    subst hl0
    simp only[List.length_nil,List.map_nil]
    exact aY (n0:=H.length) [(H.length,0),(H.length+1,0)] hG hB hC' hcl
  (refine bL ?_;with_reducible repeat' first|exact trivial|(apply ad.mk<;>intro hb)|apply av.mk)
  refine az (fun i:Nat=>[(1,.ptr H.length 0 0 0),(3,.sl (H.length+1) 0 0 (L1 i).length),(4,.int .i64 i)])
   (fun i=>H++[.cells 0 8 [.agg [.int .i64 kd,.str nm,.int .i64 nn,.int .i64 op,.list 1 (names.map .str),.list 8 (ag ae),.list 9 (ah binds),.list 12 (aw alts)]],.cells 0 1 ((L1 i).map .str)]) (fun i=>ae.length - i) (fun i=>i≤ae.length) 0 (Nat.zero_le _) ?_ ?_
  ·rw[a1]
   exact Wk.sub (by simp[bg,look])
  rintro K i hi hK
  rcases Nat.lt_or_ge i ae.length with hlt|hge
  ·have c1:=fun H=>hrec ae[i] H (hpw _ (by simp)).1 (hpw _ (by simp)).2
   have e1:=a2 i hlt
   have e2:=a3 (i+1)
   have e3:=a3 i
   have e4:=dz m ae[i]
   have e5:=(hpw ae[i] (by simp)).2
   rw[e1,List.length_append] at e2
   generalize dL m ae[i]=l at*
   generalize L1 i=l1 at*
   have X:=And.intro aF (show(l1.map SV.str).length=l1.length∧(l.map SV.str).length=l.length from⟨List.length_map ..,List.length_map ..⟩)
   (refine run ?_;with_reducible repeat' first|exact trivial|(apply ad.mk<;>intro hb)|apply av.mk)
   refine hK _ _ (i+1) (by omega) (by omega) ?_
   rw[e1,List.map_append,show(l1++l).length=l1.length+l.length from List.length_append ..]
   exact aY (n0:=H.length) [(H.length,0),(H.length+1,0)] hG hB hC' hcl
  obtain rfl:i=ae.length:=by omega
  clear hK
  (refine bL ?_;with_reducible repeat' first|exact trivial|(apply ad.mk<;>intro hb)|apply av.mk)
  refine az (fun i:Nat=>[(1,.ptr H.length 0 0 0),(3,.sl (H.length+1) 0 0 (L2 i).length),(5,.int .i64 i)])
   (fun i=>H++[.cells 0 8 [.agg [.int .i64 kd,.str nm,.int .i64 nn,.int .i64 op,.list 1 (names.map .str),.list 8 (ag ae),.list 9 (ah binds),.list 12 (aw alts)]],.cells 0 1 ((L2 i).map .str)]) (fun i=>binds.length - i) (fun i=>i≤binds.length) 0 (Nat.zero_le _) ?_ ?_
  ·rw[b1]
   exact Wk.sub (by simp[bg,look])
  rintro K i hi hK
  rcases Nat.lt_or_ge i binds.length with hlt|hge
  ·have hpb:=hpw binds[i].e (by simp;exact .inr (.inl ⟨_,List.getElem_mem hlt,rfl⟩))
   have c1:=fun H=>hrec binds[i].e H hpb.1 hpb.2
   have e1:=b2 i hlt
   have e2:=b3 (i+1)
   have e3:=b3 i
   have e4:=dz m binds[i].e
   rw[e1,List.length_append] at e2
   simp only[List.length_cons] at e2
   generalize dL m binds[i].e=l at*
   generalize L2 i=l1 at*
   have X:=And.intro aF (show(l1.map SV.str).length=l1.length∧(l.map SV.str).length=l.length from⟨List.length_map ..,List.length_map ..⟩)
   (refine run ?_;with_reducible repeat' first|exact trivial|(apply ad.mk<;>intro hb)|apply av.mk)
   refine hK _ _ (i+1) (by omega) (by omega) ?_
   rw[e1,List.map_append,List.map_cons,show(l1++binds[i].name::l).length=l1.length+(1+l.length) from by simp;omega]
   exact aY (n0:=H.length) [(H.length,0),(H.length+1,0)] hG hB hC' hcl
  obtain rfl:i=binds.length:=by omega
  clear hK
  (refine dW ?_;with_reducible repeat' first|exact trivial|(apply ad.mk<;>intro hb)|apply av.mk)
  refine cP rfl (by omega) ?_
  (refine dW ?_;with_reducible repeat' first|exact trivial|(apply ad.mk<;>intro hb)|apply av.mk)
  refine dQ (fun _:Unit=>[(1,.ptr H.length 0 0 0),(3,.sl (H.length+1) 0 0 (L2 binds.length++l5).length)]) (fun _=>H++[.cells 0 8 [.agg [.int .i64 kd,.str nm,.int .i64 nn,.int .i64 op,.list 1 (names.map .str),.list 8 (ag ae),.list 9 (ah binds),.list 12 (aw alts)]],.cells 0 1 ((L2 binds.length++l5).map .str)]) (fun _=>True) (fun K hK=>?_) (fun _ _=>?_)
  ·have X:=And.intro aF (show((L2 binds.length).map SV.str).length=(L2 binds.length).length from List.length_map ..)
   (refine bL ?_;with_reducible repeat' first|exact trivial|(apply ad.mk<;>intro hb)|apply av.mk)
   ·refine hK _ _ () trivial ?_
    rw[if_pos hb] at hl5
    subst hl5
    rw[List.map_append,List.length_append,List.length_singleton]
    exact aY (n0:=H.length) [(H.length,0),(H.length+1,0)] hG hB hC' hcl
   ·refine hK _ _ () trivial ?_
    rw[if_neg hb] at hl5
    subst hl5
    rw[List.append_nil]
    exact aY (n0:=H.length) [(H.length,0),(H.length+1,0)] hG hB hC' hcl
  (refine bL ?_;with_reducible repeat' first|exact trivial|(apply ad.mk<;>intro hb)|apply av.mk)
  refine az (fun i:Nat=>[(1,.ptr H.length 0 0 0),(3,.sl (H.length+1) 0 0 (L4 i).length),(6,.int .i64 i)])
   (fun i=>H++[.cells 0 8 [.agg [.int .i64 kd,.str nm,.int .i64 nn,.int .i64 op,.list 1 (names.map .str),.list 8 (ag ae),.list 9 (ah binds),.list 12 (aw alts)]],.cells 0 1 ((L4 i).map .str)]) (fun i=>alts.length - i) (fun i=>i≤alts.length) 0 (Nat.zero_le _) ?_ ?_
  ·rw[d1]
   exact Wk.sub (by simp[bg,look])
  rintro K i hi hK
  rcases Nat.lt_or_ge i alts.length with hlt|hge
  ·have hpb:=hpw alts[i].body (by simp;exact .inr (.inr ⟨_,List.getElem_mem hlt,rfl⟩))
   have c1:=fun H=>hrec alts[i].body H hpb.1 hpb.2
   have e1:=d2 i hlt
   have e2:=d3 (i+1)
   have e3:=d3 i
   have e4:=dz m alts[i].body
   rw[e1,List.length_append] at e2
   simp only[List.length_append] at e2
   generalize dL m alts[i].body=l at*
   generalize L4 i=l1 at*
   have X:=And.intro aF (show(l1.map SV.str).length=l1.length∧(l.map SV.str).length=l.length from⟨List.length_map ..,List.length_map ..⟩)
   (refine run ?_;with_reducible repeat' first|exact trivial|(apply ad.mk<;>intro hb)|apply av.mk)
   refine hK _ _ (i+1) (by omega) (by omega) ?_
   rw[e1,List.map_append,List.map_append,show(l1++(alts[i].names++l)).length=l1.length+(alts[i].names.length+l.length) from by simp]
   exact aY (n0:=H.length) [(H.length,0),(H.length+1,0)] hG hB hC' hcl
  obtain rfl:i=alts.length:=by omega
  clear hK
  (refine bL ?_;with_reducible repeat' first|exact trivial|(apply ad.mk<;>intro hb)|apply av.mk)
  exact dp [(H.length+1,0)] (.sl H.length 0 0 (L4 alts.length).length) [.cells 0 1 ((L4 alts.length).map .str)] hR hC' hcl ⟨rfl,rfl⟩
end Go.Proofs.YtehfihnfeakmaaaGreatDoor
