/- A part of the proof: SvN, SvO, SvP, SvQ, SvR, SvS, SwA, SwB, SwC. Names and spaces are cut short by program. -/
import Derived.Test.YtedejleokilohaaGreatDoorMb
import Derived.RangeFuncRecord
set_option linter.unusedSimpArgs false
set_option linter.unusedVariables false
set_option maxRecDepth 10000
set_option maxHeartbeats 4000000
namespace Go.Proofs.YtedejleokilohaaGreatDoor
open Go
section
mutual
def SV.under (n:Nat):SV→Bool
 | .ptr id _ _ _=>decide (id<n)
 | .sl id _ _ _=>decide (id<n)
 | .map id=>decide (id<n)
 | .it id=>decide (id<n)
 | .agg fs=>SV.underL n fs
 | .list _ xs=>SV.underL n xs
 | .pto x=>SV.under n x
 | .fn _ xs ys=>SV.underL n xs&&SV.underL n ys
 | .tuple xs=>SV.underL n xs
 | .imap _ _ _ _ ks vs=>SV.underL n ks&&SV.underL n vs
 |_=>true
def SV.underL (n:Nat):List SV→Bool
 |[]=>true
 |x::xs=>SV.under n x&&SV.underL n xs
end
def belowE (n:Nat):List (SV×SV)→Bool
 |[]=>true
 |p::r=>SV.under n p.1&&SV.under n p.2&&belowE n r
def Blk.under (n:Nat):Blk→Bool
 | .cells _ _ vals=>SV.underL n vals
 | .map _ es=>belowE n es
 |_=>true
def closed (H:List Blk):Prop:=∀ B∈H,B.under H.length=true
theorem Rep.below_both (c:Cx):(∀ x v,Rep c x v→x.under c.H.length=true)∧(∀ xs vs,RepL c xs vs→SV.underL c.H.length xs=true):=by
 have ref:∀ id:Nat,(c.H[id]? =none→False)→decide (id<c.H.length)=true:=fun id h=>by
  rw[decide_eq_true_eq]
  by_cases hh:id<c.H.length
  ·exact hh
  ·exact(h (List.getElem?_eq_none (by omega))).elim
 apply SV.both
 ·intro x h1 h2 h3 h4 h5 h6 v h
  cases x with
  |agg fs=>exact absurd rfl (h1 fs)
  |list n xs=>exact absurd rfl (h2 n xs)
  |pto y=>exact absurd rfl (h3 y)
  |fn f a b=>exact absurd rfl (h4 f a b)
  |tuple xs=>exact absurd rfl (h5 xs)
  |imap b clk born kd ks vs=>exact absurd rfl (h6 b clk born kd ks vs)
  |ptr id g i off=>simp only[Rep] at h;exact ref id fun e=>by rw[e] at h;exact h.2
  |sl id g off len=>simp only[Rep] at h;exact ref id fun e=>by rw[e] at h;exact h.2
  |map id=>simp only[Rep] at h;exact ref id fun e=>by rw[e] at h;exact h.2
  |it id=>simp only[Rep] at h;exact ref id fun e=>by rw[e] at h;exact h.2
  |_=>rfl
 ·intro fs ih v h
  simp only[Rep] at h
  obtain⟨vs,h1,_⟩:=h
  exact ih vs h1
 ·intro sz xs ih v h
  simp only[Rep] at h
  obtain⟨a,cap,_,_,_,h3⟩:=h
  rcases h3 with rfl|⟨b,o,vs,_,h4,_⟩
  ·rfl
  ·exact ih vs h4
 ·intro x ih v h
  simp only[Rep] at h
  obtain⟨b,o,u,_,h1,_⟩:=h
  exact ih u h1
 ·intro f xs ys ih1 ih2 v h
  simp only[Rep] at h
  obtain⟨us,vs,h0,h1,_⟩:=h
  simp only[SV.under,ih1 us h0,ih2 vs h1,Bool.and_self]
 ·intro xs ih v h
  simp only[Rep] at h
  obtain⟨vs,h0,_⟩:=h
  exact ih vs h0
 ·intro b clk born kd ks vs ih1 ih2 v h
  simp only[Rep] at h
  obtain⟨_,_,ents,_,_,_,h5,h6,_⟩:=h
  simp only[SV.under,ih1 _ h5,ih2 _ h6,Bool.and_self]
 ·intro vs h;rfl
 ·intro x xs ih1 ih2 vs h
  obtain⟨u,us,h1,h2,_⟩:=RepL.cons_iff.1 h
  simp only[SV.underL,ih1 u h1,ih2 us h2,Bool.and_self]
theorem HeapOK.closed {c:Cx} (h:HeapOK c):closed c.H:=by
 intro B hB
 obtain⟨id,hid,rfl⟩:=List.getElem_of_mem hB
 have hb:=h.blk id _ (List.getElem?_eq_getElem hid)
 cases hBB:c.H[id] with
 |dead=>rfl
 |obj _=>rfl
 |cells g sz vals=>
  rw[hBB] at hb
  rcases hb with⟨_,rfl⟩|⟨_,_,_,_,_,vs,_,_,_,h4,_⟩
  ·rfl
  ·exact(Rep.below_both c).2 _ _ h4
 |map kd es=>
  rw[hBB] at hb
  obtain⟨_,ents,_,_,_,h4,_⟩:=hb
  have:∀ {es:List (SV×SV)} {l:List MapEntry},RepE c es l→belowE c.H.length es=true:=by
   intro es
   induction es with
   |nil=>intro l _;rfl
   |cons p es ih=>
    intro l h
    obtain⟨q,x⟩:=p
    simp only[RepE] at h
    obtain⟨e,es',h1,h2,h3,_⟩:=h
    simp only[belowE,(Rep.below_both c).1 _ _ h1,(Rep.below_both c).1 _ _ h2,ih h3,Bool.and_self]
  exact this h4
theorem Rep.cut_both {θ:Nat→Option (Nat×Nat)} {H X:List Blk} {w:World}:(∀ x v,Rep ⟨θ,H++X,w⟩ x v→x.under H.length=true→Rep ⟨θ,H,w⟩ x v)∧
 (∀ xs vs,RepL ⟨θ,H++X,w⟩ xs vs→SV.underL H.length xs=true→RepL ⟨θ,H,w⟩ xs vs):=by
 have hget:∀ id:Nat,decide (id<H.length)=true→(H++X)[id]? =H[id]? :=fun id h=>List.getElem?_append_left (by simpa using h)
 have himm:∀ b,Cx.imm ⟨θ,H++X,w⟩ b→Cx.imm ⟨θ,H,w⟩ b:=fun b ⟨h1,h2⟩=>⟨h1,fun⟨id,o,⟨B,hB,hl⟩,ht⟩=>h2 ⟨id,o,⟨B,(by
  have hlt:=(List.getElem?_eq_some_iff.1 hB).1
  show(H++X)[id]? =some B
  rw[List.getElem?_append_left hlt];exact hB),hl⟩,ht⟩⟩
 apply SV.both
 ·intro x h1 h2 h3 h4 h5 h6 v h hb
  cases x with
  |agg fs=>exact absurd rfl (h1 fs)
  |list n xs=>exact absurd rfl (h2 n xs)
  |pto y=>exact absurd rfl (h3 y)
  |fn f a b=>exact absurd rfl (h4 f a b)
  |tuple xs=>exact absurd rfl (h5 xs)
  |imap b clk born kd ks vs=>exact absurd rfl (h6 b clk born kd ks vs)
  |ptr id g i off=>simp only[Rep,hget id hb] at h ⊢;exact h
  |sl id g off len=>simp only[Rep,hget id hb] at h ⊢;exact h
  |map id=>simp only[Rep,hget id hb] at h ⊢;exact h
  |it id=>simp only[Rep,hget id hb] at h ⊢;exact h
  |_=>exact h
 ·intro fs ih v h hb
  simp only[Rep] at h ⊢
  obtain⟨vs,h1,h2⟩:=h
  exact⟨vs,ih vs h1 hb,h2⟩
 ·intro sz xs ih v h hb
  simp only[Rep] at h ⊢
  obtain⟨a,cap,h0,h1,h2,h3⟩:=h
  refine⟨a,cap,h0,h1,h2,?_⟩
  rcases h3 with h3|⟨b,o,vs,h3,h4,h5,h6,h7⟩
  ·exact .inl h3
  ·exact .inr ⟨b,o,vs,h3,ih vs h4 hb,h5,h6,himm b h7⟩
 ·intro x ih v h hb
  simp only[Rep] at h ⊢
  obtain⟨b,o,u,h0,h1,h2,h3,h4⟩:=h
  exact⟨b,o,u,h0,ih u h1 hb,h2,h3,himm b h4⟩
 ·intro f xs ys ih1 ih2 v h hb
  simp only[SV.under,Bool.and_eq_true] at hb
  simp only[Rep] at h ⊢
  obtain⟨us,vs,h0,h1,h2⟩:=h
  exact⟨us,vs,ih1 us h0 hb.1,ih2 vs h1 hb.2,h2⟩
 ·intro xs ih v h hb
  simp only[Rep] at h ⊢
  obtain⟨vs,h0,h1⟩:=h
  exact⟨vs,ih vs h0 hb,h1⟩
 ·intro b clk born kd ks vs ih1 ih2 v h hb
  simp only[SV.under,Bool.and_eq_true] at hb
  simp only[Rep] at h ⊢
  obtain⟨h0,h1,ents,h2,h3,h4,h5,h6,h7⟩:=h
  exact⟨h0,himm b h1,ents,h2,h3,h4,ih1 _ h5 hb.1,ih2 _ h6 hb.2,h7⟩
 ·intro vs h _;simpa [RepL] using h
 ·intro x xs ih1 ih2 vs h hb
  simp only[SV.underL,Bool.and_eq_true] at hb
  obtain⟨u,us,h1,h2,h3⟩:=RepL.cons_iff.1 h
  exact RepL.cons_iff.2 ⟨u,us,ih1 u h1 hb.1,ih2 us h2 hb.2,h3⟩
theorem Cx.cut {θ:Nat→Option (Nat×Nat)} {H X:List Blk} {w:World} (hc:HeapOK ⟨θ,H++X,w⟩) (hcl:closed H):HeapOK ⟨θ,H,w⟩∧∀ C:Cx,C.H.length≤H.length→Grow C ⟨θ,H++X,w⟩→Grow C ⟨θ,H,w⟩:=by
 have hget:∀ (id:Nat) (B:Blk),H[id]? =some B→(H++X)[id]? =some B:=fun id B h=>by
  rw[List.getElem?_append_left (List.getElem?_eq_some_iff.1 h).1];exact h
 refine⟨⟨fun id B hB=>?_,fun i j b o o' ⟨Bi,h1,h2⟩ ⟨Bj,h3,h4⟩ h5 h6=>hc.inj i j b o o' ⟨Bi,hget i Bi h1,h2⟩ ⟨Bj,hget j Bj h3,h4⟩ h5 h6⟩,fun C hC hg=>?_⟩
 ·have hb:=hc.blk id B (hget id B hB)
  have hbel:=hcl B (List.mem_of_getElem? hB)
  cases B with
  |dead=>trivial
  |obj o=>exact hb
  |cells g sz vals=>
   rcases hb with hb|⟨b,o,cs,T,fr,vs,h1,h2,h3,h4,h5,h6⟩
   ·exact .inl hb
   ·exact .inr ⟨b,o,cs,T,fr,vs,h1,h2,h3,Rep.cut_both.2 _ _ h4 hbel,h5,h6⟩
  |map kd es=>
   obtain⟨b,ents,clk,h1,h2,h3,h4⟩:=hb
   have hE:∀ {es:List (SV×SV)} {l:List MapEntry},RepE ⟨θ,H++X,w⟩ es l→belowE H.length es=true→RepE ⟨θ,H,w⟩ es l:=by
    intro es
    induction es with
    |nil=>intro l h _;exact h
    |cons p es ih=>
     intro l h hb
     obtain⟨q,x⟩:=p
     simp only[RepE] at h ⊢
     simp only[belowE,Bool.and_eq_true] at hb
     obtain⟨e,es',a1,a2,a3,a4⟩:=h
     exact⟨e,es',Rep.cut_both.1 _ _ a1 hb.1.1,Rep.cut_both.1 _ _ a2 hb.1.2,ih a3 hb.2,a4⟩
   exact⟨b,ents,clk,h1,h2,hE h3 hbel,h4⟩
 ·refine⟨hg.os,hg.tape,hg.output,hg.size,hg.old,hg.shape,fun id B hB=>?_,fun id b o hn hl ht=>?_⟩
  ·obtain⟨B',h1,h2⟩:=hg.ids id B hB
   have hlt:id<H.length:=Nat.lt_of_lt_of_le (List.getElem?_eq_some_iff.1 hB).1 hC
   have h1':(H++X)[id]? =some B':=h1
   rw[List.getElem?_append_left hlt] at h1'
   exact⟨B',h1',h2⟩
  ·obtain⟨B,h1,h2⟩:=hl
   exact hg.new id b o hn ⟨B,hget id B h1,h2⟩ ht
section
variable {P:Program} {G:Gl} {T:Tab} {own:List Nat} {nt B:Nat} {ρ:Option Nat} {C:Cx}
def Wk (G:Gl) (nt:Nat) (C:Cx) (s s2:St):Prop:=
 ∀ c a,c.H=s.H→Inv G nt C.w.heap.size c s.env a→Grow C c→∃ c',c'.H=s2.H∧c'.w=c.w∧Inv G nt C.w.heap.size c' s2.env a∧Grow C c'
def GClosed (G:Gl):Prop:=∀ p∈G.l,SV.under 0 p.2=true
theorem SV.below_mono_both {n m:Nat} (h:n≤m):(∀ x:SV,x.under n=true→x.under m=true)∧(∀ xs:List SV,SV.underL n xs=true→SV.underL m xs=true):=by
 apply SV.both
 ·intro x h1 h2 h3 h4 h5 h6 hb
  cases x with
  |agg fs=>exact absurd rfl (h1 fs)
  |list n xs=>exact absurd rfl (h2 n xs)
  |pto y=>exact absurd rfl (h3 y)
  |fn f a b=>exact absurd rfl (h4 f a b)
  |tuple xs=>exact absurd rfl (h5 xs)
  |imap b clk born kd ks vs=>exact absurd rfl (h6 b clk born kd ks vs)
  |ptr id g i off=>simp only[SV.under,decide_eq_true_eq] at hb ⊢;omega
  |sl id g off len=>simp only[SV.under,decide_eq_true_eq] at hb ⊢;omega
  |map id=>simp only[SV.under,decide_eq_true_eq] at hb ⊢;omega
  |it id=>simp only[SV.under,decide_eq_true_eq] at hb ⊢;omega
  |_=>rfl
 ·intro fs ih hb;exact ih hb
 ·intro n xs ih hb;exact ih hb
 ·intro x ih hb;exact ih hb
 ·intro f a b ih1 ih2 hb
  simp only[SV.under,Bool.and_eq_true] at hb ⊢
  exact⟨ih1 hb.1,ih2 hb.2⟩
 ·intro xs ih hb;exact ih hb
 ·intro b clk born kd ks vs ih1 ih2 hb
  simp only[SV.under,Bool.and_eq_true] at hb ⊢
  exact⟨ih1 hb.1,ih2 hb.2⟩
 ·intro _;rfl
 ·intro x xs ih1 ih2 hb
  simp only[SV.underL,Bool.and_eq_true] at hb ⊢
  exact⟨ih1 hb.1,ih2 hb.2⟩
theorem Wk.cut (hG:GClosed G) {env env2:Env} {H X:List Blk} (hB:Based G H.length) (hC:C.H.length≤H.length) (hcl:closed H) (he:∀ t x,look env2 t=some x→look env t=some x∧x.under H.length=true):Wk G nt C ⟨env,H++X⟩ ⟨env2,H⟩:=by
 rintro⟨θ,Hc,w⟩ a hc hi hg
 simp only at hc
 subst hc
 obtain⟨h1,h2⟩:=Cx.cut hi.heap hcl
 refine⟨⟨θ,H,w⟩,rfl,rfl,⟨h1,⟨fun p hp=>Rep.cut_both.1 _ _ (hi.glob.1 p hp) ((SV.below_mono_both (Nat.zero_le _)).1 _ (hG p hp)),fun C0 h0=>h2 C0 (hB C0 h0) (hi.glob.2 C0 h0)⟩,hi.size,fun t x hx=>?_,?_⟩,h2 C hC hg⟩
 ·obtain⟨e1,e2⟩:=he t x hx
  exact Rep.cut_both.1 _ _ (hi.env t x e1) e2
 ·refine⟨fun d hd=>?_,hi.defs.2⟩
  obtain⟨r,q1,q2,q3,q4⟩:=hi.defs.1 d hd
  refine⟨r,q1,q2,⟨q3.1,fun⟨id,o,⟨B,hB,hl⟩,ht⟩=>q3.2 ⟨id,o,⟨B,?_,hl⟩,ht⟩⟩,q4⟩
  show(H++X)[id]? =some B
  rw[List.getElem?_append_left (List.getElem?_eq_some_iff.1 hB).1];exact hB
theorem Wk.env {env env2:Env} {H:List Blk} (he:∀ t x,look env2 t=some x→look env t=some x):Wk G nt C ⟨env,H⟩ ⟨env2,H⟩:=
 fun c a hc hi hg=>⟨c,hc,rfl,⟨hi.heap,hi.glob,hi.size,fun t x hx=>hi.env t x (he t x hx),hi.defs⟩,hg⟩
theorem AWP.wk {cd:Code} {Q:Exit→St→Prop} {s s2:St} (hw:Wk G nt C s s2) (h:AWP P G nt ρ C cd Q s2):AWP P G nt ρ C cd Q s:=by
 intro c a hc hi hg
 obtain⟨c',e1,e2,e3,e4⟩:=hw c a hc hi hg
 rw[← e2]
 exact h c' a e1 e3 e4
theorem AWP.loopW {x:Code} {Q:Exit→St→Prop} {s:St} (I:Nat→St→Prop) (n:Nat) (s0:St) (hs:Wk G nt C s s0) (h0:I n s0)
 (round:∀ n s,I n s→AWP P G nt ρ C x (fun e s'=>match e with
  | .normal=>∃ m s2,m<n∧Wk G nt C s' s2∧I m s2
  |e=>Q e s') s):AWP P G nt ρ C (.loop x) Q s:=by
 refine AWP.wk hs ?_
 intro c a hc hi hg
 refine wpIn_loopN (fun m a' w'=>∃ s' c',I m s'∧c'.H=s'.H∧c'.w=w'∧Inv G nt C.w.heap.size c' s'.env a'∧Grow C c') n ⟨s0,c,h0,hc,rfl,hi,hg⟩ ?_
 rintro j a w ⟨s',c',h1,h2,rfl,h3,h4⟩
 refine wpIn_mono (round j s' h1 c' a h2 h3 h4) ?_
 rintro e a' w' ⟨s2,c2,g1,g2,g3,g4,g5⟩
 cases e with
 |normal=>
  obtain⟨m,s3,hm,hwk,g1⟩:=g1
  obtain⟨c3,e1,e2,e3,e4⟩:=hwk c2 a' g2 g4 g5
  exact⟨m,hm,s3,c3,g1,e1,e2.trans g3,e3,e4⟩
 |_=>exact⟨s2,c2,g1,g2,g3,g4,g5⟩
end
end
section
theorem cells_ne {w:World} {b r:Nat} {cs:Array Value} {T:TypeId} {fr:Nat×Nat} {ds:Option (List Deferred)} (h:w.heap[b]? =some (.cells cs T fr)) (hr:w.heap[r]? =some (.deferred ds)):b≠r:=fun e=>by rw[e,hr] at h;cases h
theorem putObj_other (w:World) (r b:Nat) (o:Obj) (h:b≠r):(w.putObj r o).heap[b]? =w.heap[b]? :=World.putObj_heap_other h
theorem rangeAt_poke {w:World} {b o r:Nat} {cs:List Value} {ds:Option (List Deferred)} (h:w.rangeAt b o cs) (hr:w.heap[r]? =some (.deferred ds)) (o':Obj):(w.putObj r o').rangeAt b o cs:=fun j v hv=>by
 have hc:=h j v hv
 have hb:b≠r:=fun e=>by subst e;simp[World.cell?,hr] at hc
 rw[World.cell?_of_block (w:=w) (w':=w.putObj r o') (putObj_other w r b o' hb)]
 exact hc
theorem Rep.poke_both {θ:Nat→Option (Nat×Nat)} {H:List Blk} {w:World} {r:Nat} {ds:Option (List Deferred)} (hr:w.heap[r]? =some (.deferred ds)) (o':Obj):
 (∀ x v,Rep ⟨θ,H,w⟩ x v→Rep ⟨θ,H,w.putObj r o'⟩ x v)∧(∀ xs vs,RepL ⟨θ,H,w⟩ xs vs→RepL ⟨θ,H,w.putObj r o'⟩ xs vs):=by
 have hsz:(w.putObj r o').heap.size=w.heap.size:=by simp[World.putObj]
 have himm:∀ b,Cx.imm ⟨θ,H,w⟩ b→Cx.imm ⟨θ,H,w.putObj r o'⟩ b:=fun b ⟨h1,h2⟩=>⟨by show b<(w.putObj r o').heap.size;rw[hsz];exact h1,h2⟩
 apply SV.both
 ·intro x h1 h2 h3 h4 h5 h6 v h
  cases x with
  |agg fs=>exact absurd rfl (h1 fs)
  |list n xs=>exact absurd rfl (h2 n xs)
  |pto y=>exact absurd rfl (h3 y)
  |fn f a b=>exact absurd rfl (h4 f a b)
  |tuple xs=>exact absurd rfl (h5 xs)
  |imap b clk born kd ks vs=>exact absurd rfl (h6 b clk born kd ks vs)
  |sl id g off len=>
   simp only[Rep] at h ⊢
   refine⟨h.1,?_⟩
   have h:=h.2
   cases hB:H[id]? with
   |none=>simp[hB] at h
   |some B=>
    simp only[hB] at h
    cases B with
    |cells g' sz vals=>
     simp only at h ⊢
     rcases h with h|⟨e,q1,aa,cap,q2,q3,q4,q5⟩
     ·exact .inl h
     ·refine .inr ⟨e,q1,aa,cap,q2,q3,q4,?_⟩
      rcases q5 with q5|⟨b,o,cs,T,fr,q5,q6,q7,q8⟩
      ·exact .inl q5
      ·exact .inr ⟨b,o,cs,T,fr,q5,q6,by rw[putObj_other w r b o' (cells_ne q7 hr)];exact q7,q8⟩
    |_=>exact h
  |_=>exact h
 ·intro fs ih v h
  simp only[Rep] at h ⊢
  obtain⟨vs,h1,h2⟩:=h
  exact⟨vs,ih vs h1,h2⟩
 ·intro sz xs ih v h
  simp only[Rep] at h ⊢
  obtain⟨a,cap,h0,h1,h2,h3⟩:=h
  refine⟨a,cap,h0,h1,h2,?_⟩
  rcases h3 with h3|⟨b,o,vs,h3,h4,h5,h6,h7⟩
  ·exact .inl h3
  ·exact .inr ⟨b,o,vs,h3,ih vs h4,h5,rangeAt_poke h6 hr o',himm b h7⟩
 ·intro x ih v h
  simp only[Rep] at h ⊢
  obtain⟨b,o,u,h0,h1,h2,h3,h4⟩:=h
  exact⟨b,o,u,h0,ih u h1,h2,rangeAt_poke h3 hr o',himm b h4⟩
 ·intro f xs ys ih1 ih2 v h
  simp only[Rep] at h ⊢
  obtain⟨us,vs,h0,h1,h2⟩:=h
  exact⟨us,vs,ih1 us h0,ih2 vs h1,h2⟩
 ·intro xs ih v h
  simp only[Rep] at h ⊢
  obtain⟨vs,h0,h1⟩:=h
  exact⟨vs,ih vs h0,h1⟩
 ·intro b clk born kd ks vs ih1 ih2 v h
  simp only[Rep] at h ⊢
  obtain⟨h0,h1,ents,h2,h3,h4,h5,h6,h7⟩:=h
  exact⟨h0,himm b h1,ents,by rw[putObj_other w r b o' (fun e=>by rw[e] at h2;rw[hr] at h2;cases h2)];exact h2,h3,h4,ih1 _ h5,ih2 _ h6,h7⟩
 ·intro vs h;simpa [RepL] using h
 ·intro x xs ih1 ih2 vs h
  obtain⟨u,us,h1,h2,h3⟩:=RepL.cons_iff.1 h
  exact RepL.cons_iff.2 ⟨u,us,ih1 u h1,ih2 us h2,h3⟩
theorem Cx.poke {θ:Nat→Option (Nat×Nat)} {H:List Blk} {w:World} (hc:HeapOK ⟨θ,H,w⟩) {r:Nat} {ds:Option (List Deferred)} (hr:w.heap[r]? =some (.deferred ds)) (him:Cx.imm ⟨θ,H,w⟩ r) (o':Obj):
 HeapOK ⟨θ,H,w.putObj r o'⟩∧∀ C:Cx,C.w.heap.size≤r→Grow C ⟨θ,H,w⟩→Grow C ⟨θ,H,w.putObj r o'⟩:=by
 have hsz:(w.putObj r o').heap.size=w.heap.size:=by simp[World.putObj]
 refine⟨⟨fun id B hB=>?_,hc.inj⟩,fun C hC hg=>?_⟩
 ·have hb:=hc.blk id B hB
  have hne:∀ b o,B.isLive=true→θ id=some (b,o)→b≠r:=fun b o hl ht e=>him.2 ⟨id,o,⟨B,hB,hl⟩,e ▸ ht⟩
  cases B with
  |dead=>trivial
  |obj ob=>obtain⟨b,h1,h2,h3⟩:=hb;exact⟨b,h1,by rw[show(w.putObj r o').heap[b]? =w.heap[b]? from putObj_other w r b o' (hne b 0 rfl h1)];exact h2,h3⟩
  |cells g sz vals=>
   rcases hb with hb|⟨b,o,cs,T,fr,vs,h1,h2,h3,h4,h5,h6⟩
   ·exact .inl hb
   ·exact .inr ⟨b,o,cs,T,fr,vs,h1,by rw[show(w.putObj r o').heap[b]? =w.heap[b]? from putObj_other w r b o' (hne b o rfl h1)];exact h2,h3,(Rep.poke_both hr o').2 _ _ h4,h5,rangeAt_poke h6 hr o'⟩
  |map kd es=>
   obtain⟨b,ents,clk,h1,h2,h3,h4⟩:=hb
   have hE:∀ {es:List (SV×SV)} {l:List MapEntry},RepE ⟨θ,H,w⟩ es l→RepE ⟨θ,H,w.putObj r o'⟩ es l:=by
    intro es
    induction es with
    |nil=>intro l h;exact h
    |cons p es ih=>
     intro l h
     obtain⟨q,x⟩:=p
     simp only[RepE] at h ⊢
     obtain⟨e,es',a1,a2,a3,a4⟩:=h
     exact⟨e,es',(Rep.poke_both hr o').1 _ _ a1,(Rep.poke_both hr o').1 _ _ a2,ih a3,a4⟩
   exact⟨b,ents,clk,h1,by rw[show(w.putObj r o').heap[b]? =w.heap[b]? from putObj_other w r b o' (hne b 0 rfl h1)];exact h2,hE h3,h4⟩
 ·refine⟨hg.os,hg.tape,hg.output,by show _≤(w.putObj r o').heap.size;rw[hsz];exact hg.size,fun b hb ho=>?_,fun b cs T fr h=>?_,hg.ids,hg.new⟩
  ·show(w.putObj r o').heap[b]? =_
   rw[putObj_other w r b o' (by omega)];exact hg.old b hb ho
  ·obtain⟨cs',fr',h1,h2⟩:=hg.shape b cs T fr h
   exact⟨cs',fr',by show(w.putObj r o').heap[b]? =_;rw[putObj_other w r b o' (cells_ne h1 hr)];exact h1,h2⟩
def resL (T:Tab) (env:Env) (H:List Blk):List ResultVar→Option (List SV)
 |[]=>some []
 | .tmp t::r=>match look env t with
  |some x=>(match resL T env H r with
   |some xs=>some (x::xs)
   |none=>none)
  |none=>none
 | .cell t ty::r=>match look env t with
  |some p=>(match T.get ty with
   |some i=>(match loadSV H i p with
    |some x=>(match resL T env H r with
     |some xs=>some (x::xs)
     |none=>none)
    |none=>none)
   |none=>none)
  |none=>none
def resSV:List SV→SV
 |[x]=>x
 |xs=> .tuple xs
def Fin (C:Cx) (H:List Blk) (x:SV) (R:SV→List Blk→Prop):Prop:=
 ∀ c v,c.H=H→HeapOK c→Rep c x v→Grow C c→∃ c' y,c'.w=c.w∧R y c'.H∧HeapOK c'∧Rep c' y v∧Grow C c'
def RetK (C:Cx) (T:Tab) (rs:List ResultVar) (R:SV→List Blk→Prop) (e:Exit) (env:Env) (H:List Blk):Prop:=
 match e with
 | .normal| .ret=>bindO (resL T env H rs) fun xs=>Then (Fin C H (resSV xs) R)
 |_=>False
def initEnv:List SV→Nat→Env
 |[],_=>[]
 |x::r,i=>(i,x)::initEnv r (i+1)
section
variable {P:Program} {G:Gl} {T:Tab} {own:List Nat} {nt B:Nat} {ρ:Option Nat} {C:Cx} {c:Cx} {env:Env} {a:Act}
def NearW (w w':World):Prop:=∀ r:Nat,w'.heap[r]? =w.heap[r]? ∨∃ ds0:Option (List Deferred),w.heap[r]? =some (Obj.deferred ds0)
theorem rangeAt_near {w w':World} (hw:NearW w w') {b o:Nat} {cs:List Value} (h:w.rangeAt b o cs):w'.rangeAt b o cs:=fun j v hv=>by
 have hc:=h j v hv
 rcases hw b with e|⟨ds,e⟩
 ·rw[World.cell?_of_block (w:=w) (w':=w') e];exact hc
 ·simp[World.cell?,e] at hc
def resOne (tmps:Array Value):ResultVar→Sem Value
 | .tmp t=>pure (tmps.getD t undef)
 | .cell x t=>do loadVar t (← asAddr (tmps.getD x undef))
theorem results_eq (fn:Func) (tmps:Array Value):results fn tmps=(do
 let vs ← fn.results.mapM (resOne tmps)
 pure (if h:vs.size=1 then vs[0] else .tuple vs)):=by
 refine congrArg (fun f:ResultVar→Sem Value=>(do
  let vs ← fn.results.mapM f
  pure (if h:vs.size=1 then vs[0] else Value.tuple vs):Sem Value)) ?_
 funext r
 cases r<;>rfl
theorem resL_ok (hT:TabOK P T) (hi:Inv G nt B c env a):∀ {rs:List ResultVar} {xs:List SV},resL T env c.H rs=some xs→∃ vs,RepL c xs vs∧∀ w',NearW c.w w'→
 (rs.mapM (resOne a.tmps)).run P w'= .ok vs w'
 |[],xs,h=>by simp only[resL,Option.some.injEq] at h;subst h;exact⟨[],RepL.mk_nil,fun w' _=>by simp⟩
 | .tmp t::r,xs,h=>by
  simp only[resL] at h
  split at h
  ·rename_i x hx
   split at h
   ·rename_i ys hy
    cases h
    obtain⟨vs,h1,h2⟩:=resL_ok hT hi hy
    exact⟨_::vs,RepL.mk_cons (hi.env t x hx) h1,fun w' hw=>by simp[List.mapM_cons,resOne,h2 w' hw]⟩
   ·cases h
  ·cases h
 | .cell t ty::r,xs,h=>by
  simp only[resL] at h
  split at h
  ·rename_i p hp
   split at h
   ·rename_i i hti
    split at h
    ·rename_i x hx
     split at h
     ·rename_i ys hy
      cases h
      obtain⟨vs,h1,h2⟩:=resL_ok hT hi hy
      obtain⟨b,o,u,e1,e2,e3,e4⟩:=load_ok hi.heap (hi.env t p hp) hx
      exact⟨u::vs,RepL.mk_cons e2 h1,fun w' hw=>by
       have hl:=run_loadVar_sv (hT _ _ hti) e2 e3 (rangeAt_near hw e4)
       simp[List.mapM_cons,resOne,e1,asAddr,hl,h2 w' hw]⟩
     ·cases h
    ·cases h
   ·cases h
  ·cases h
theorem leaves_ok {fn:Func} {R:SV→List Blk→Prop} {C0:Cx}:∀ (ds:List Deferred) (c:Cx),HeapOK c→DefOK C0.w.heap.size c ds→Grow C0 c→∀ (x:SV) (v:Value) (tmps:Array Value),Rep c x v→R x c.H→
 (∀ w',NearW c.w w'→(results fn tmps).run P w'= .ok v w')→
 LeavesInM (FR none) 0 P fn tmps (RetOK C0 R) ds .returning c.w
 |[],c,hc,hd,hg,x,v,tmps,hx,hR,hrun=>⟨v,hrun c.w (fun r=> .inl rfl),v,x,c,rfl,rfl,hR,hc,hx,hg⟩
 |d::ds,c,hc,hd,hg,x,v,tmps,hx,hR,hrun=>by
  obtain⟨r,rfl,h1,h2,h3⟩:=hd.1 d (List.mem_cons_self ..)
  obtain⟨θ,H,w⟩:=c
  have hp:=Cx.poke hc h1 h2 (.deferred none)
  refine⟨by simp,.inl ⟨r,w.putObj r (.deferred none),rfl,run_takeDeferred h1,?_⟩⟩
  have hd':DefOK C0.w.heap.size ⟨θ,H,w.putObj r (.deferred none)⟩ ds:=by
   have hpw:=List.pairwise_cons.1 hd.2
   refine⟨fun d' hd'=>?_,hpw.2⟩
   obtain⟨r',q1,q2,q3,q4⟩:=hd.1 d' (List.mem_cons_of_mem _ hd')
   have hne:r'≠r:=fun e=>hpw.1 d' hd' r rfl (by rw[q1,e])
   refine⟨r',q1,?_,⟨?_,q3.2⟩,q4⟩
   ·show(w.putObj r _).heap[r']? =_
    rw[putObj_other w r r' _ hne];exact q2
   ·show r'<(w.putObj r _).heap.size
    have:=q3.1
    simpa [World.putObj] using this
  refine leaves_ok ds ⟨θ,H,w.putObj r (.deferred none)⟩ hp.1 hd' (hp.2 C0 h3 hg) x v tmps ((Rep.poke_both h1 _).1 _ _ hx) hR fun w' hw'=>hrun w' fun r'=>?_
  by_cases e:r'=r
  ·exact .inr ⟨_,by rw[e];exact h1⟩
  ·rcases hw' r' with h|⟨ds0,h⟩
   ·left;rw[h];exact putObj_other w r r' _ e
   ·right;exact⟨ds0,by rw[← h];exact(putObj_other w r r' _ e).symm⟩
theorem initEnv_ok:∀ {xs:List SV} {vs:List Value} {i:Nat} {t:Nat} {x:SV},RepL c xs vs→look (initEnv xs i) t=some x→∃ j,t=i+j∧∃ v,vs[j]? =some v∧Rep c x v
 |[],vs,i,t,x,_,h=>by cases h
 |y::xs,vs,i,t,x,hr,h=>by
  obtain⟨u,us,h1,h2,rfl⟩:=RepL.cons_iff.1 hr
  simp only[initEnv,look] at h
  split at h
  ·rename_i e;cases h;exact⟨0,e,u,rfl,h1⟩
  ·obtain⟨j,e,v,h3,h4⟩:=initEnv_ok h2 h
   exact⟨j+1,by omega,v,by simpa using h3,h4⟩
theorem ACall.of_awp (hT:TabOK P T) {f:FuncId} {fn:Func} {cd:Code} {args:List SV} {H:List Blk} {R:SV→List Blk→Prop} (hf:P.funcs[f]? =some fn) (hb:fn.body=some cd) (hname:(fn.name== "runtime.NumGoroutine")=false)
 (hnt:fn.ntmps=nt) (hlen:args.length≤nt) {rs:List ResultVar} (hrs:fn.results.toList=rs)
 (h:∀ C:Cx,C.H=H→closed H→Based G C.H.length→AWP P G nt none C cd (fun e s=>RetK C T rs R e s.env s.H) ⟨initEnv args 0,H⟩):ACall P G f args H R:=by
 refine⟨⟨fn,hf,hname,by rw[hb];rfl⟩,fun c vs hH hc hG hv=>?_⟩
 have hcl:closed H:=hH ▸ hc.closed
 refine callsIn_of_wp_marks hf hb trivial ?_ rfl
 have hvl:vs.length=args.length:=hv.length
 have hinv:Inv G nt c.w.heap.size c (initEnv args 0) { tmps:=vs.toArray++Array.replicate (fn.ntmps - vs.toArray.size) undef,defers:=[]}:=by
  refine⟨hc,hG,by simp;omega,fun t x hx=>?_,⟨by simp,List.Pairwise.nil⟩⟩
  obtain⟨j,e,v,h1,h2⟩:=initEnv_ok hv hx
  have hj:j<vs.length:=(List.getElem?_eq_some_iff.1 h1).1
  have:(vs.toArray++Array.replicate (fn.ntmps - vs.toArray.size) undef).getD t undef=v:=by
   rw[Array.getD_eq_getD_getElem?,Array.getElem?_append_left (by simp;omega)]
   rw[e,Nat.zero_add,List.getElem?_toArray,h1];rfl
  rw[this];exact h2
 have hA:=h c hH hcl hG.based c _ hH hinv (Grow.refl c)
 refine wpIn_mono hA ?_
 rintro e a' w' ⟨⟨env',H'⟩,c',h1,h2,rfl,h3,h4⟩
 have fin:bindO (resL T env' H' rs) (fun xs=>Then (Fin c H' (resSV xs) R))→LeavesInM (FR none) 0 P fn a'.tmps (RetOK c R) a'.defers .returning c'.w:=fun hq=>by
  obtain⟨xs,q1,q2⟩:=hq
  simp only at h2
  rw[← h2] at q1 q2
  obtain⟨vs',k1,k2⟩:=resL_ok hT h3 q1
  have hval:Rep c' (resSV xs) (if hs:vs'.toArray.size=1 then vs'.toArray[0] else .tuple vs'.toArray):=by
   have hl:=k1.length
   cases xs with
   |nil=>rw[RepL.nil_iff.1 k1];simp only[resSV,Rep];exact⟨[],RepL.mk_nil,by simp⟩
   |cons x xs=>
    cases xs with
    |nil=>
     obtain⟨u,us,e1,e2,rfl⟩:=RepL.cons_iff.1 k1
     rw[RepL.nil_iff.1 e2]
     simpa [resSV] using e1
    |cons y ys=>
     have:¬ vs'.toArray.size=1:=by simp at hl ⊢;omega
     rw[dif_neg this]
     simp only[resSV,Rep]
     exact⟨vs',k1,rfl⟩
  obtain⟨c2,y,e1,e2,e3,e4,e5⟩:=q2 c' _ rfl h3.heap hval h4
  rw[← e1]
  have hdef:DefOK c.w.heap.size c2 a'.defers:=by
   refine⟨fun d hd=>?_,h3.defs.2⟩
   obtain⟨r,g1,g2,g3,g4⟩:=h3.defs.1 d hd
   rw[← e1] at g2
   refine⟨r,g1,g2,⟨by rw[e1];exact g3.1,?_⟩,g4⟩
   rintro⟨id,o,⟨B,hB,hl⟩,ht⟩
   have hb:=e3.blk id B hB
   cases B with
   |dead=>cases hl
   |obj ob=>obtain⟨b,q1,q2,q3⟩:=hb;rw[ht] at q1;cases q1;rw[g2] at q2;cases q2;exact q3 _ rfl
   |map _ _=>obtain⟨b,_,_,q1,q2,_⟩:=hb;rw[ht] at q1;cases q1;rw[g2] at q2;cases q2
   |cells _ _ _=>
    rcases hb with⟨q1,_⟩|⟨b,_,_,_,_,_,q1,q2,_⟩
    ·rw[ht] at q1;cases q1
    ·rw[ht] at q1;cases q1;rw[g2] at q2;cases q2
  refine leaves_ok a'.defers c2 e3 hdef e5 y _ a'.tmps e4 e2 fun w2 hw2=>?_
  rw[e1] at hw2
  have hrun:=k2 w2 hw2
  have:(fn.results.mapM (resOne a'.tmps)).run P w2= .ok vs'.toArray w2:=by
   rw[Array.mapM_eq_mapM_toList,hrs,Sem.run_map,hrun];rfl
  rw[results_eq,Sem.run_bind,this]
  rfl
 cases e with
 |normal=>exact fin h1
 |ret=>exact fin h1
 |_=>exact h1.elim
end
def Told (x y:SV):Prop:=y=x∨(x= .nil∧∃ n,y= .list n [])
def ToldL:List SV→List SV→Prop
 |[],[]=>True
 |x::xs,y::ys=>Told x y∧ToldL xs ys
 |_,_=>False
theorem Told.rep {c:Cx} {x y:SV} {v:Value} (h:Told x y) (hr:Rep c x v):Rep c y v:=by
 rcases h with rfl|⟨rfl,n,rfl⟩
 ·exact hr
 ·simp only[Rep] at hr ⊢
  exact⟨none,0,hr,Nat.le_refl _,Nat.zero_le _,by simp⟩
theorem ToldL.rep {c:Cx}:∀ {xs ys:List SV} {vs:List Value},ToldL xs ys→RepL c xs vs→RepL c ys vs
 |[],[],vs,_,hr=>hr
 |x::xs,y::ys,vs,h,hr=>by
  obtain⟨u,us,h1,h2,rfl⟩:=RepL.cons_iff.1 hr
  exact RepL.mk_cons (h.1.rep h1) (h.2.rep h2)
 |[],_::_,_,h,_=>h.elim
 |_::_,[],_,h,_=>h.elim
def Told2:SV→SV→Prop
 | .agg xs,.agg ys=>ToldL xs ys
 |x,y=>Told x y
theorem ToldL.refl:∀ xs:List SV,ToldL xs xs
 |[]=>trivial
 |x::xs=>⟨.inl rfl,ToldL.refl xs⟩
theorem Told2.refl (x:SV):Told2 x x:=by
 cases x with
 |agg xs=>exact ToldL.refl xs
 |_=>exact .inl rfl
theorem Told2.rep {c:Cx} {x y:SV} {v:Value} (h:Told2 x y) (hr:Rep c x v):Rep c y v:=by
 unfold Told2 at h
 split at h
 ·simp only[Rep] at hr ⊢
  obtain⟨vs,h1,h2,h3⟩:=hr
  exact⟨vs,h.rep h1,h2,h3⟩
 ·exact h.rep hr
theorem tiOK_of {P:Program} {t:Nat} {i:TI} (z0:SV) (hz0:Told2 z0 i.zero) (h1:tdOK P t i.d) (h2:(P.info? t).map (fun j=>(j.size,j.bytes,j.zero.bind constSV,j.zero.map fun z=>z.cells.size))=some (i.size,i.bytes,some z0,some i.size)):tiOK P t i:=by
 refine⟨h1,?_⟩
 cases hi:P.info? t with
 |none=>rw[hi] at h2;cases h2
 |some info=>
  rw[hi] at h2
  simp only[Option.map_some,Option.some.injEq,Prod.mk.injEq] at h2
  obtain⟨a1,a2,a3,a4⟩:=h2
  cases hz:info.zero with
  |none=>rw[hz] at a3;cases a3
  |some z=>
   rw[hz] at a3 a4
   exact⟨info,z,rfl,a1,a2,hz,fun c=>⟨hz0.rep (constSV_rep a3 c).1,(constSV_rep a3 c).2⟩,by simpa using a4⟩
theorem TabOK.nil {P:Program}:TabOK P []:=fun t i h=>by cases h
theorem TabOK.cons {P:Program} {k:Nat} {x:TI} {T:Tab} (h:tiOK P k x) (r:TabOK P T):TabOK P ((k,x)::T):=fun t i hi=>by
 simp only[Tab.get] at hi
 cases e:Nat.beq t k with
 |true=>
  rw[e,cond_true] at hi
  cases hi
  have:=Nat.eq_of_beq_eq_true e
  subst this
  exact h
 |false=>
  rw[e,cond_false] at hi
  exact r t i hi
end
section
section
variable {P:Program} {G:Gl} {T:Tab} {own:List Nat} {nt B:Nat} {ρ:Option Nat} {C:Cx} {env:Env} {H:List Blk} {k:Exit→Env→List Blk→Prop}
def Goes (K Y:Env→List Blk→Prop):Prop:=∀ env H,Y env H→K env H
theorem Goes.go {K Y:Env→List Blk→Prop} {env:Env} {H:List Blk} (h:Goes K Y) (y:Y env H):K env H:=h env H y
theorem constSV_int (kd:IntKind) (n:Int) (h:kd.min≤n∧n≤kd.max):constSV (.int kd n)=some (.int kd n):=by simp[constSV,constCell,h]
theorem constSV_i64 (n:Int) (h: -9223372036854775808≤n∧n<9223372036854775808):constSV (.int .i64 n)=some (.int .i64 n):=constSV_int _ _ (by
 have h1:IntKind.i64.min= -9223372036854775808:=by decide
 have h2:IntKind.i64.max=9223372036854775807:=by decide
 rw[h1,h2];omega)
theorem constSV_u8 (n:Int) (h:0≤n∧n<256):constSV (.int .u8 n)=some (.int .u8 n):=constSV_int _ _ (by
 have h1:IntKind.u8.min=0:=by decide
 have h2:IntKind.u8.max=255:=by decide
 rw[h1,h2];omega)
theorem constSV_bool (b:Bool):constSV (.bool b)=some (.bool b):=rfl
theorem constSV_nil:constSV (.slice none 0 0)=some .nil:=rfl
theorem constSV_nilptr:constSV (.pointer none)=some .nilptr:=rfl
theorem constSV_nilmap:constSV (.map none)=some .nilmap:=rfl
theorem wrap_i64 (n:Int) (h: -9223372036854775808≤n∧n<9223372036854775808):IntKind.i64.wrap n=n:=by
 simp only[IntKind.wrap,IntKind.bits,IntKind.signed]
 simp
 omega
theorem int_le_true {a b:Int} (h:a≤b):(a≤b)=True:=eq_true h
theorem nat_le_true {a b:Nat} (h:a≤b):(a≤b)=True:=eq_true h
theorem nat_lt_true {a b:Nat} (h:a<b):(a<b)=True:=eq_true h
theorem Then.mk {p:Prop} (h:p):Then p:=h
def subEnv:Env→Env→Prop
 |[],_=>True
 |(t,x)::r,env=>look env t=some x∧subEnv r env
theorem subEnv.look:∀ {env2 env:Env},subEnv env2 env→∀ t x,look env2 t=some x→look env t=some x
 |[],_,_,t,x,h=>by cases h
 |(t',x')::r,env,hs,t,x,h=>by
  simp only[Go.Proofs.YtedejleokilohaaGreatDoor.look] at h
  split at h
  ·rename_i e;cases h;subst e;exact hs.1
  ·exact hs.2.look t x h
theorem Wk.refl (s:St):Wk G nt C s s:=fun c a h1 h2 h3=>⟨c,h1,rfl,h2,h3⟩
theorem Wk.sub {env2:Env} (h:subEnv env2 env):Wk G nt C ⟨env,H⟩ ⟨env2,H⟩:=Wk.env h.look
def Back (p:Prop):Prop:=p
theorem Back.go {p:Prop} (h:Back p):p:=h
theorem Fin.same {x:SV} {R:SV→List Blk→Prop} (h:R x H):Fin C H x R:=fun c v h1 h2 h3 h4=>⟨c,x,rfl,by rw[h1];exact h,h2,h3,h4⟩
theorem Fin.then {x:SV} {R:SV→List Blk→Prop} (h:R x H):Then (Fin C H x R):=Fin.same h
end
end
abbrev Str:=List UInt8
mutual
inductive Ex where
 |mk (kind:Int) (name:Str) (n op:Int) (names:List Str) (subs:List Ex) (binds:List Bd) (alts:List Al)
inductive Bd where
 |mk (name:Str) (e:Ex)
inductive Al where
 |mk (kind:Int) (name:Str) (n:Int) (names:List Str) (body:Ex)
end
def Bd.name:Bd→Str
 | .mk s _=>s
def Bd.e:Bd→Ex
 | .mk _ e=>e
def Al.kind:Al→Int
 | .mk k _ _ _ _=>k
def Al.name:Al→Str
 | .mk _ s _ _ _=>s
def Al.n:Al→Int
 | .mk _ _ n _ _=>n
def Al.names:Al→List Str
 | .mk _ _ _ l _=>l
def Al.body:Al→Ex
 | .mk _ _ _ _ e=>e
mutual
def Ex.cells:Ex→List SV
 | .mk k s n op l subs binds alts=>[.int .i64 k,.str s,.int .i64 n,.int .i64 op,.list 1 (l.map .str),.list 8 (exCells subs),.list 9 (bdCells binds),.list 12 (alCells alts)]
def exCells:List Ex→List SV
 |[]=>[]
 |e::r=> .agg e.cells::exCells r
def Bd.cells:Bd→List SV
 | .mk s e=> .str s::e.cells
def bdCells:List Bd→List SV
 |[]=>[]
 |b::r=> .agg b.cells::bdCells r
def Al.cells:Al→List SV
 | .mk k s n l e=> .int .i64 k:: .str s:: .int .i64 n:: .list 1 (l.map .str)::e.cells
def alCells:List Al→List SV
 |[]=>[]
 |a::r=> .agg a.cells::alCells r
end
def Ex.sv (e:Ex):SV:= .agg e.cells
def Bd.sv (b:Bd):SV:= .agg b.cells
def Al.sv (a:Al):SV:= .agg a.cells
theorem Ex.cells_len (e:Ex):e.cells.length=8:=by cases e;rfl
theorem Bd.cells_len (b:Bd):b.cells.length=9:=by cases b;simp[Bd.cells,Ex.cells_len]
theorem Al.cells_len (a:Al):a.cells.length=12:=by cases a;simp[Al.cells,Ex.cells_len]
theorem exCells_map:∀ l:List Ex,exCells l=l.map Ex.sv
 |[]=>rfl
 |e::r=>by rw[exCells,exCells_map r];rfl
theorem bdCells_map:∀ l:List Bd,bdCells l=l.map Bd.sv
 |[]=>rfl
 |e::r=>by rw[bdCells,bdCells_map r];rfl
theorem alCells_map:∀ l:List Al,alCells l=l.map Al.sv
 |[]=>rfl
 |e::r=>by rw[alCells,alCells_map r];rfl
theorem Ex.cells_take (e:Ex):e.cells.take 8=e.cells:=List.take_of_length_le (by rw[e.cells_len];exact Nat.le_refl _)
theorem Bd.cells_eq (b:Bd):b.cells= .str b.name::b.e.cells:=by cases b;rfl
theorem Al.cells_eq (a:Al):a.cells= .int .i64 a.kind:: .str a.name:: .int .i64 a.n:: .list 1 (a.names.map .str)::a.body.cells:=by cases a;rfl
mutual
def Ex.size:Ex→Nat
 | .mk _ _ _ _ _ subs binds alts=>1+exsSize subs+bdsSize binds+alsSize alts
def exsSize:List Ex→Nat
 |[]=>0
 |e::r=>e.size+exsSize r
def Bd.size:Bd→Nat
 | .mk _ e=>e.size
def bdsSize:List Bd→Nat
 |[]=>0
 |b::r=>b.size+bdsSize r
def Al.size:Al→Nat
 | .mk _ _ _ _ e=>e.size
def alsSize:List Al→Nat
 |[]=>0
 |a::r=>a.size+alsSize r
end
theorem Ex.size_pos (e:Ex):0<e.size:=by cases e;simp[Ex.size];omega
section
theorem get_app0 (H L:List Blk):(H++L)[H.length]? =L[0]? :=by rw[List.getElem?_append_right (Nat.le_refl _),Nat.sub_self]
theorem get_app (H L:List Blk) (k:Nat):(H++L)[H.length+k]? =L[k]? :=by simp[List.getElem?_append_right]
theorem get_old {H L:List Blk} {id:Nat} (h:id<H.length):(H++L)[id]? =H[id]? :=List.getElem?_append_left h
theorem set_app0 (H L:List Blk) (x:Blk):(H++L).set H.length x=H++L.set 0 x:=by simp[List.set_append]
theorem set_app (H L:List Blk) (k:Nat) (x:Blk):(H++L).set (H.length+k) x=H++L.set k x:=by simp[List.set_append]
theorem set_old {H L:List Blk} {id:Nat} (h:id<H.length) (x:Blk):(H++L).set id x=H.set id x++L:=by simp[List.set_append,h]
theorem belowE_mono {n m:Nat} (h:n≤m):∀ {es:List (SV×SV)},belowE n es=true→belowE m es=true
 |[],_=>rfl
 |p::r,hb=>by
  simp only[belowE,Bool.and_eq_true] at hb ⊢
  exact⟨⟨(SV.below_mono_both h).1 _ hb.1.1,(SV.below_mono_both h).1 _ hb.1.2⟩,belowE_mono h hb.2⟩
theorem Blk.under_mono {n m:Nat} (h:n≤m) {B:Blk} (hb:B.under n=true):B.under m=true:=by
 cases B with
 |cells _ _ vals=>exact(SV.below_mono_both h).2 _ hb
 |map _ es=>exact belowE_mono h hb
 |_=>rfl
theorem closed.app {H:List Blk} (h:closed H) {L:List Blk} (hb:∀ b∈L,b.under (H.length+L.length)=true):closed (H++L):=by
 intro B hB
 rw[List.length_append]
 rcases List.mem_append.1 hB with h1|h1
 ·exact Blk.under_mono (by omega) (h B h1)
 ·exact hb B h1
theorem closed.set {H:List Blk} (h:closed H) {id:Nat} {b:Blk} (hb:b.under H.length=true):closed (H.set id b):=by
 intro B hB
 rw[List.length_set]
 rcases List.mem_or_eq_of_mem_set hB with h1|h1
 ·exact h B h1
 ·subst h1;exact hb
mutual
theorem Ex.cells_under (n:Nat):∀ e:Ex,SV.underL n e.cells=true
 | .mk k s m op l subs binds alts=>by
  simp only[Ex.cells,SV.underL,SV.under,strs_under,exCells_under,bdCells_under,alCells_under,Bool.and_self]
theorem exCells_under (n:Nat):∀ l:List Ex,SV.underL n (exCells l)=true
 |[]=>rfl
 |e::r=>by simp only[exCells,SV.underL,SV.under,Ex.cells_under n e,exCells_under n r,Bool.and_self]
theorem Bd.cells_under (n:Nat):∀ b:Bd,SV.underL n b.cells=true
 | .mk s e=>by simp only[Bd.cells,SV.underL,SV.under,Ex.cells_under n e,Bool.and_self]
theorem bdCells_under (n:Nat):∀ l:List Bd,SV.underL n (bdCells l)=true
 |[]=>rfl
 |e::r=>by simp only[bdCells,SV.underL,SV.under,Bd.cells_under n e,bdCells_under n r,Bool.and_self]
theorem Al.cells_under (n:Nat):∀ b:Al,SV.underL n b.cells=true
 | .mk k s m l e=>by simp only[Al.cells,SV.underL,SV.under,strs_under,Ex.cells_under n e,Bool.and_self]
theorem alCells_under (n:Nat):∀ l:List Al,SV.underL n (alCells l)=true
 |[]=>rfl
 |e::r=>by simp only[alCells,SV.underL,SV.under,Al.cells_under n e,alCells_under n r,Bool.and_self]
theorem strs_under (n:Nat):∀ l:List Str,SV.underL n (l.map .str)=true
 |[]=>rfl
 |e::r=>by simp only[List.map,SV.underL,SV.under,strs_under n r,Bool.and_self]
end
theorem Ex.sv_under (n:Nat) (e:Ex):e.sv.under n=true:=Ex.cells_under n e
section
variable {P:Program} {G:Gl} {nt:Nat} {C:Cx} {env:Env} {H:List Blk}
def subEnvU (n:Nat):Env→Env→Prop
 |[],_=>True
 |(t,x)::r,env=>(look env t=some x∧x.under n=true)∧subEnvU n r env
theorem subEnvU.look {n:Nat}:∀ {env2 env:Env},subEnvU n env2 env→∀ t x,look env2 t=some x→look env t=some x∧x.under n=true
 |[],_,_,t,x,h=>by cases h
 |(t',x')::r,env,hs,t,x,h=>by
  simp only[Go.Proofs.YtedejleokilohaaGreatDoor.look] at h
  split at h
  ·rename_i e;cases h;subst e;exact hs.1
  ·exact hs.2.look t x h
theorem Wk.cutS (hG:GClosed G) {env2:Env} {X:List Blk} (hB:Based G H.length) (hC:C.H.length≤H.length) (hcl:closed H) (h:subEnvU H.length env2 env):Wk G nt C ⟨env,H++X⟩ ⟨env2,H⟩:=Wk.cut hG hB hC hcl h.look
theorem Wk.cut1 (hG:GClosed G) {env2:Env} {b:Blk} {X:List Blk} (hB:Based G H.length) (hC:C.H.length≤H.length) (hcl:closed (H++[b])) (h:subEnvU (H++[b]).length env2 env):Wk G nt C ⟨env,H++b::X⟩ ⟨env2,H++[b]⟩:=by
 rw[List.append_cons];exact Wk.cutS hG (fun C0 h0=>by have:=hB C0 h0;simp;omega) (by simp;omega) hcl h
theorem Fin.cut {X:List Blk} {x:SV} {R:SV→List Blk→Prop} (hC:C.H.length≤H.length) (hcl:closed H) (hx:x.under H.length=true) (h:R x H):Then (Fin C (H++X) x R):=by
 rintro⟨θ,Hc,w⟩ v h1 h2 h3 h4
 simp only at h1
 subst h1
 obtain⟨k1,k2⟩:=Cx.cut h2 hcl
 exact⟨⟨θ,H,w⟩,x,rfl,h,k1,Rep.cut_both.1 _ _ h3 hx,k2 C hC h4⟩
end
end
theorem exCells_len (l:List Ex):(exCells l).length=l.length:=by simp[exCells_map]
theorem bdCells_len (l:List Bd):(bdCells l).length=l.length:=by simp[bdCells_map]
theorem alCells_len (l:List Al):(alCells l).length=l.length:=by simp[alCells_map]
theorem exCells_get (l:List Ex) (i:Nat):(exCells l)[i]? =l[i]?.map fun e=> .agg e.cells:=by rw[exCells_map,List.getElem?_map];rfl
theorem bdCells_get (l:List Bd) (i:Nat):(bdCells l)[i]? =l[i]?.map fun e=> .agg (.str e.name::e.e.cells):=by
 rw[bdCells_map,List.getElem?_map]
 have:Bd.sv=fun e=> .agg (.str e.name::e.e.cells):=by funext e;rw[Bd.sv,Bd.cells_eq]
 rw[this]
theorem alCells_get (l:List Al) (i:Nat):(alCells l)[i]? =l[i]?.map fun a=> .agg (.int .i64 a.kind:: .str a.name:: .int .i64 a.n:: .list 1 (a.names.map .str)::a.body.cells):=by
 rw[alCells_map,List.getElem?_map]
 have:Al.sv=fun a=> .agg (.int .i64 a.kind:: .str a.name:: .int .i64 a.n:: .list 1 (a.names.map .str)::a.body.cells):=by funext e;rw[Al.sv,Al.cells_eq]
 rw[this]
def Ex.kind:Ex→Int| .mk k _ _ _ _ _ _ _=>k
def Ex.name:Ex→Str| .mk _ s _ _ _ _ _ _=>s
def Ex.n:Ex→Int| .mk _ _ n _ _ _ _ _=>n
def Ex.op:Ex→Int| .mk _ _ _ o _ _ _ _=>o
def Ex.names:Ex→List Str| .mk _ _ _ _ l _ _ _=>l
def Ex.subs:Ex→List Ex| .mk _ _ _ _ _ l _ _=>l
def Ex.binds:Ex→List Bd| .mk _ _ _ _ _ _ l _=>l
def Ex.alts:Ex→List Al| .mk _ _ _ _ _ _ _ l=>l
def Ex.parts (e:Ex):List Ex:=e.subs++(e.binds.map Bd.e++e.alts.map Al.body)
theorem Ex.parts_mk (k:Int) (s:Str) (n o:Int) (l:List Str) (subs:List Ex) (binds:List Bd) (alts:List Al):(Ex.mk k s n o l subs binds alts).parts=subs++(binds.map Bd.e++alts.map Al.body):=rfl
def strsWt:List Str→Nat
 |[]=>0
 |s::r=>1+s.length+strsWt r
mutual
def Ex.wt:Ex→Nat
 | .mk _ s _ _ l subs binds alts=>1+s.length+strsWt l+exsWt subs+bdsWt binds+alsWt alts
def exsWt:List Ex→Nat
 |[]=>0
 |e::r=>e.wt+exsWt r
def Bd.wt:Bd→Nat
 | .mk s e=>1+s.length+e.wt
def bdsWt:List Bd→Nat
 |[]=>0
 |b::r=>b.wt+bdsWt r
def Al.wt:Al→Nat
 | .mk _ s _ l e=>1+s.length+strsWt l+e.wt
def alsWt:List Al→Nat
 |[]=>0
 |a::r=>a.wt+alsWt r
end
theorem Ex.wt_pos (e:Ex):0<e.wt:=by cases e;simp only[Ex.wt];omega
theorem Bd.wt_gt (b:Bd):b.e.wt<b.wt:=by cases b;simp only[Bd.wt,Bd.e];omega
theorem Al.wt_gt (b:Al):b.body.wt<b.wt:=by cases b;simp only[Al.wt,Al.body];omega
theorem strsWt_len:∀ l:List Str,l.length≤strsWt l
 |[]=>Nat.le_refl _
 |s::r=>by simp only[List.length_cons,strsWt];have:=strsWt_len r;omega
theorem exsWt_len:∀ l:List Ex,l.length≤exsWt l
 |[]=>Nat.le_refl _
 |e::r=>by simp only[List.length_cons,exsWt];have:=exsWt_len r;have:=e.wt_pos;omega
theorem bdsWt_len:∀ l:List Bd,l.length≤bdsWt l
 |[]=>Nat.le_refl _
 |e::r=>by simp only[List.length_cons,bdsWt];have:=bdsWt_len r;have:=e.wt_gt;omega
theorem alsWt_len:∀ l:List Al,l.length≤alsWt l
 |[]=>Nat.le_refl _
 |e::r=>by simp only[List.length_cons,alsWt];have:=alsWt_len r;have:=e.wt_gt;omega
theorem exsWt_mem:∀ {l:List Ex} {e:Ex},e∈l→e.wt≤exsWt l
 |x::r,e,h=>by
  simp only[exsWt]
  rcases List.mem_cons.1 h with rfl|h
  ·omega
  ·have:=exsWt_mem h;omega
theorem bdsWt_mem:∀ {l:List Bd} {e:Bd},e∈l→e.wt≤bdsWt l
 |x::r,e,h=>by
  simp only[bdsWt]
  rcases List.mem_cons.1 h with rfl|h
  ·omega
  ·have:=bdsWt_mem h;omega
theorem alsWt_mem:∀ {l:List Al} {e:Al},e∈l→e.wt≤alsWt l
 |x::r,e,h=>by
  simp only[alsWt]
  rcases List.mem_cons.1 h with rfl|h
  ·omega
  ·have:=alsWt_mem h;omega
theorem Ex.wt_parts {e p:Ex} (h:p∈e.parts):p.wt<e.wt:=by
 obtain⟨k,s,n,o,l,subs,binds,alts⟩:=e
 rw[Ex.parts_mk] at h
 simp only[Ex.wt]
 rcases List.mem_append.1 h with h|h
 ·have:=exsWt_mem h;omega
 ·rcases List.mem_append.1 h with h|h
  ·obtain⟨b,hb,rfl⟩:=List.mem_map.1 h
   have:=bdsWt_mem hb;have:=b.wt_gt;omega
  ·obtain⟨b,hb,rfl⟩:=List.mem_map.1 h
   have:=alsWt_mem hb;have:=b.wt_gt;omega
theorem Ex.wt_lens (k:Int) (s:Str) (n o:Int) (l:List Str) (subs:List Ex) (binds:List Bd) (alts:List Al):l.length+subs.length+binds.length+alts.length<(Ex.mk k s n o l subs binds alts).wt:=by
 have h1:=strsWt_len l;have h2:=exsWt_len subs;have h3:=bdsWt_len binds;have h4:=alsWt_len alts
 simp only[Ex.wt];omega
section
def ob {α β:Type} (x:Option α) (f:α→Option β):Option β:=x.bind f
theorem ob_some {α β:Type} (a:α) (f:α→Option β):ob (some a) f=f a:=rfl
@[congr] theorem ob_congr {α β:Type} {x y:Option α} {f:α→Option β} (h:x=y):ob x f=ob y f:=by rw[h]
theorem ob_eq {α β:Type} {x:Option α} {f:α→Option β} {b:β} (h:ob x f=some b):∃ a,x=some a∧f a=some b:=by
 cases x with
 |none=>cases h
 |some a=>exact⟨a,rfl,h⟩
def chk {α:Type} (p:Prop) [Decidable p] (x:Option α):Option α:=if p then x else none
theorem chk_eq {α:Type} {p:Prop} [Decidable p] {x:Option α} {b:α} (h:chk p x=some b):p∧x=some b:=by
 unfold chk at h
 split at h
 ·exact⟨‹_›,h⟩
 ·cases h
theorem chk_true {α:Type} {p:Prop} [Decidable p] (h:p) (x:Option α):chk p x=x:=if_pos h
def bb {α:Type} (b:Bool) (x y:Option α):Option α:=match b with
 |true=>x
 |false=>y
theorem bb_true {α:Type} (x y:Option α):bb true x y=x:=rfl
theorem bb_false {α:Type} (x y:Option α):bb false x y=y:=rfl
@[congr] theorem bb_congr {α:Type} {b b':Bool} {x y:Option α} (h:b=b'):bb b x y=bb b' x y:=by rw[h]
def isNilC:Operand→Bool
 | .const (.slice none 0 0)=>true
 | .const (.map none)=>true
 | .const (.pointer none)=>true
 |_=>false
def nilH (H:List Blk) (y:Operand):List Blk:=match isNilC y with
 |true=>H
 |false=>[]
theorem nilH_blk {H:List Blk} {y:Operand} {id g:Nat} {q:Nat×List SV} (h:blkOf (nilH H y) id g=some q):blkOf H id g=some q:=by
 unfold nilH at h
 split at h
 ·exact h
 ·simp[blkOf] at h
theorem nilH_map {H:List Blk} {y:Operand} {id:Nat} {q:Unit} (h:isMapB (nilH H y) id=some q):isMapB H id=some q:=by
 unfold nilH at h
 split at h
 ·exact h
 ·simp[isMapB] at h
def ifcV (b:Bool) (op:BinOp) (x:SV):Option SV:=
 match x with
 | .ifc z=>(match op with
  | .eql=>chk (b=true) (some (.bool z))
  | .neq=>chk (b=true) (some (.bool (!z)))
  |_=>none)
 |_=>none
theorem ifcV_ok {b:Bool} {op:BinOp} {x v:SV} {k:SV→Prop} (h:ifcV b op x=some v) (hk:k v):ifcSV b op x k:=by
 unfold ifcV at h
 split at h
 ·split at h
  ·obtain⟨h1,h2⟩:=chk_eq h;cases h2;exact⟨h1,hk⟩
  ·obtain⟨h1,h2⟩:=chk_eq h;cases h2;exact⟨h1,hk⟩
  ·cases h
 ·cases h
def binV (H:List Blk) (tb:Nat) (op:BinOp) (x y:SV):Option SV:=
 match x,y with
 | .int i a,.int j b=>
  match op with
  | .shl=>chk (0≤b) (some (.int i (i.wrap (a*2 ^ (min b.toNat i.bits)))))
  | .shr=>chk (0≤b) (some (.int i (a.fdiv (2 ^ (min b.toNat i.bits)))))
  | .add=>chk (i=j) (some (.int i (i.wrap (a+b))))
  | .sub=>chk (i=j) (some (.int i (i.wrap (a - b))))
  | .mul=>chk (i=j) (some (.int i (i.wrap (a*b))))
  | .quo=>chk (i=j∧b≠0) (some (.int i (i.wrap (a.tdiv b))))
  | .rem=>chk (i=j∧b≠0) (some (.int i (a.tmod b)))
  | .and=>chk (i=j) (ob (bitsI .and i a b) fun n=>some (.int i n))
  | .or=>chk (i=j) (ob (bitsI .or i a b) fun n=>some (.int i n))
  | .xor=>chk (i=j) (ob (bitsI .xor i a b) fun n=>some (.int i n))
  | .andNot=>chk (i=j) (ob (bitsI .andNot i a b) fun n=>some (.int i n))
  | .eql=>chk (i=j) (some (.bool (decide (a=b))))
  | .neq=>chk (i=j) (some (.bool (decide (a≠b))))
  | .lss=>chk (i=j) (some (.bool (decide (a<b))))
  | .leq=>chk (i=j) (some (.bool (decide (a≤b))))
  | .gtr=>chk (i=j) (some (.bool (decide (b<a))))
  | .geq=>chk (i=j) (some (.bool (decide (b≤a))))
 | .str a,.str b=>
  match op with
  | .add=>chk (a.length+b.length≤maxLen) (some (.str (a++b)))
  | .eql=>some (.bool (decide (a=b)))
  | .neq=>some (.bool (decide (a≠b)))
  | .lss=>some (.bool (strLess a b))
  | .gtr=>some (.bool (!(strLess a b||decide (a=b))))
  | .leq=>some (.bool (strLess a b||decide (a=b)))
  | .geq=>some (.bool (!strLess a b))
  |_=>none
 | .bool a,.bool b=>
  match op with
  | .eql=>chk (tb=1) (some (.bool (a==b)))
  | .neq=>chk (tb=1) (some (.bool (!(a==b))))
  |_=>none
 | .nil,.nil=>
  match op with
  | .eql=>chk (tb=2) (some (.bool true))
  | .neq=>chk (tb=2) (some (.bool false))
  |_=>none
 | .list _ (_::_),.nil=>
  match op with
  | .eql=>chk (tb=2) (some (.bool false))
  | .neq=>chk (tb=2) (some (.bool true))
  |_=>none
 | .sl id g _ (_+1),.nil=>
  match op with
  | .eql=>ob (blkOf H id g) fun _=>chk (tb=2) (some (.bool false))
  | .neq=>ob (blkOf H id g) fun _=>chk (tb=2) (some (.bool true))
  |_=>none
 | .nilmap,.nilmap=>
  match op with
  | .eql=>chk (tb=3) (some (.bool true))
  | .neq=>chk (tb=3) (some (.bool false))
  |_=>none
 | .map id,.nilmap=>
  match op with
  | .eql=>ob (isMapB H id) fun _=>chk (tb=3) (some (.bool false))
  | .neq=>ob (isMapB H id) fun _=>chk (tb=3) (some (.bool true))
  |_=>none
 | .nilptr,.nilptr=>
  match op with
  | .eql=>chk (tb=4) (some (.bool true))
  | .neq=>chk (tb=4) (some (.bool false))
  |_=>none
 | .ptr id g _ _,.nilptr=>
  match op with
  | .eql=>ob (blkOf H id g) fun _=>chk (tb=4) (some (.bool false))
  | .neq=>ob (blkOf H id g) fun _=>chk (tb=4) (some (.bool true))
  |_=>none
 | .pto _,.nilptr=>
  match op with
  | .eql=>chk (tb=4) (some (.bool false))
  | .neq=>chk (tb=4) (some (.bool true))
  |_=>none
 | .agg xs,.agg ys=>
  match op with
  | .eql=>chk (tb=5+codeSV xs∧codeSV ys=codeSV xs) (ob (eqSL xs ys) fun b=>some (.bool b))
  | .neq=>chk (tb=5+codeSV xs∧codeSV ys=codeSV xs) (ob (eqSL xs ys) fun b=>some (.bool (!b)))
  |_=>none
 |_,_=>none
theorem binV_ok {H:List Blk} {yo:Operand} {tb:Nat} {op:BinOp} {x y v:SV} {k:SV→Prop} (h:binV (nilH H yo) tb op x y=some v) (hk:k v):binSV H tb op x y k:=by
 unfold binV at h
 split at h
 ·rename_i i a j b
  cases op<;>simp only at h<;>first
   |(cases h;done)
   |(obtain⟨h1,h2⟩:=chk_eq h;cases h2;simp only[binSV,Need,cmpI,bindO_some,Bool.not_eq_true',decide_not] at hk ⊢;first
    |exact⟨h1,hk⟩
    |(rw[if_pos h1];exact hk)
    |(rw[if_pos h1.1];exact⟨h1.2,hk⟩))
   |(obtain⟨h1,h2⟩:=chk_eq h;obtain⟨n,h3,h4⟩:=ob_eq h2;cases h4;simp only[binSV,if_pos h1,h3,bindO_some];exact hk)
 ·rename_i a b
  cases op<;>simp only at h<;>first
   |(cases h;done)
   |(cases h;simp only[binSV,cmpS,bindO_some,decide_not,Need] at hk ⊢;exact hk)
   |(obtain⟨h1,h2⟩:=chk_eq h;cases h2;exact⟨h1,hk⟩)
 ·rename_i a b
  cases op<;>simp only at h<;>first
   |(cases h;done)
   |(obtain⟨h1,h2⟩:=chk_eq h;cases h2;exact⟨h1,hk⟩)
 all_goals first
  |(cases h;done)
  |(cases op<;>simp only at h<;>first
   |(cases h;done)
   |(obtain⟨h1,h2⟩:=chk_eq h;cases h2;exact⟨h1,hk⟩)
   |(obtain⟨h1,h2⟩:=chk_eq h;cases h2;exact⟨h1,(by intro e;cases e),hk⟩)
   |(obtain⟨h1,h2⟩:=chk_eq h;obtain⟨b,h3,h4⟩:=ob_eq h2;cases h4;exact⟨h1,b,h3,hk⟩)
   |(obtain⟨q,h0,h⟩:=ob_eq h;obtain⟨h1,h2⟩:=chk_eq h;cases h2;exact⟨q,nilH_blk h0,h1,hk⟩)
   |(obtain⟨q,h0,h⟩:=ob_eq h;obtain⟨h1,h2⟩:=chk_eq h;cases h2;exact⟨q,nilH_map h0,h1,hk⟩)
   |(obtain⟨q,h0,h⟩:=ob_eq h;obtain⟨h1,h2⟩:=chk_eq h;cases h2;exact⟨q,nilH_blk h0,h1,(by intro e;cases e),hk⟩))
def unV (op:UnOp) (x:SV):Option SV:=
 match op,x with
 | .not,.bool b=>some (.bool (!b))
 | .neg,.int i n=>some (.int i (i.wrap (0 - n)))
 |_,_=>none
def lenV (H:List Blk) (i:TI) (v:SV):Option SV:=
 chk (lenFits H i.d v=true) (ob (lenSV H v) fun n=>match i.d with
  | .map _ _=>chk (n≤9223372036854775807) (some (.int .i64 n))
  |_=>some (.int .i64 n))
def gv (b want:Bool) (x:SV):SV:=match b,want with
 |true,true=>x
 |false,false=>x
 |_,_=> .undef
theorem gv_tt (x:SV):gv true true x=x:=rfl
theorem gv_ff (x:SV):gv false false x=x:=rfl
theorem gv_tf (x:SV):gv true false x= .undef:=rfl
theorem gv_ft (x:SV):gv false true x= .undef:=rfl
theorem gv_self (b:Bool) (x:SV):gv b b x=x:=by cases b<;>rfl
theorem gv_T {b:Bool} (x:SV) (h:b=true):gv b true x=x:=by subst h;rfl
theorem gv_F {b:Bool} (x:SV) (h:b=false):gv b false x=x:=by subst h;rfl
theorem gv_dT {a:Prop} {inst:Decidable a} (x:SV) (h:a):gv (decide a) true x=x:=by rw[decide_eq_true h];rfl
theorem gv_dF {a:Prop} {inst:Decidable a} (x:SV) (h:¬ a):gv (decide a) false x=x:=by rw[decide_eq_false h];rfl
theorem gv_dTu {a:Prop} {inst:Decidable a} (x:SV) (h:¬ a):gv (decide a) true x= .undef:=by rw[decide_eq_false h];rfl
theorem gv_dFu {a:Prop} {inst:Decidable a} (x:SV) (h:a):gv (decide a) false x= .undef:=by rw[decide_eq_true h];rfl
theorem gv_Tu {b:Bool} (x:SV) (h:b=false):gv b true x= .undef:=by subst h;rfl
theorem gv_Fu {b:Bool} (x:SV) (h:b=true):gv b false x= .undef:=by subst h;rfl
def pk (b:Bool) (x y:SV):SV:=match b with
 |true=>x
 |false=>y
theorem pk_true (x y:SV):pk true x y=x:=rfl
theorem pk_false (x y:SV):pk false x y=y:=rfl
theorem pk_gvT (b:Bool) (x y:SV):pk b (gv b true x) y=pk b x y:=by cases b<;>rfl
theorem pk_gvF (b:Bool) (x y:SV):pk b x (gv b false y)=pk b x y:=by cases b<;>rfl
theorem pk_bT (b q:Bool):pk b (.bool true) (.bool q)= .bool (b||q):=by cases b<;>rfl
theorem pk_bF (b p:Bool):pk b (.bool p) (.bool false)= .bool (b&&p):=by cases b<;>rfl
theorem pk_bTr (b p:Bool):pk b (.bool p) (.bool true)= .bool (!b||p):=by cases b<;>rfl
theorem pk_bFl (b q:Bool):pk b (.bool false) (.bool q)= .bool (!b&&q):=by cases b<;>rfl
def qv (G:Gl) (T:Tab) (own:List Nat) (env:Env) (H:List Blk) (dst:Option Nat) (ty:Nat):Op→Option SV
 | .move x=>ev G env x
 | .assign x=>bb (isIn dst own) (ob (elemOf T ty) fun _=>ob (ev G env x) fun v=>match v with
  | .nil=>none
  |v=>some v) (ev G env x)
 | .pick c x y=>ob (ev G env c) fun v=>ob (asB v) fun g=>ob (ev G env x) fun X=>ob (ev G env y) fun Y=>some (pk g X Y)
 | .build t parts=>ob (T.get t) fun i=>chk (fieldsKnown T i.d=true∧i.zero.isAgg=true) (ob (partsOf T i.d G env parts.toList) fun ps=>putAll i.zero ps)
 | .buildSlice t len parts=>ob (elemOf T t) fun e=>chk (((len*e.2.size≤16777216∧0<e.2.size)∧fits e.2 e.2.zero=true)∧(len==0||isIn dst own)=false) (ob (fillAll e.2 G env (List.replicate len e.2.zero) parts.toList) fun xs=>
  some (.list e.2.size xs))
 | .load t x=>ob (T.get t) fun i=>ob (ev G env x) fun p=>loadSV H i p
 | .nilCheck x=>ob (ev G env x) fun v=>chk (okPtr H v=true) (some v)
 | .binOp op t x y _=>ob (ev G env x) fun a=>ob (ev G env y) fun b=>bb (isNilI y) (ifcV (isIfc T t) op a) (binV (nilH H y) (kindT T t) op a b)
 | .unOp op _ x=>ob (ev G env x) fun a=>unV op a
 | .convert st dt x=>ob (T.get st) fun si=>ob (T.get dt) fun i=>ob (ev G env x) fun v=>match i.d,v with
  | .int j,.int _ n=>some (.int j (j.wrap n))
  | .str,.str s=>some (.str s)
  | .str,v=>chk (sliceU8 T si.d=true∧szOK H 1 v=true) (ob (seqOf H v) fun xs=>ob (strOf xs) fun s=>some (.str s))
  |_,_=>none
 | .makeFunc fn first cap=>ob (evs G env first.toList) fun xs=>ob (evs G env cap.toList) fun ys=>some (.fn fn xs ys)
 | .slice t x lo hi none=>ob (T.get t) fun i=>ob (ev G env x) fun v=>ob (lenSV H v) fun n=>ob (boundOf G env lo 0) fun l=>ob (boundOf G env hi n) fun h=>
  chk (0≤l∧l≤h∧(h≤(n:Int)∨h≤(capSV H v:Int))) (ob (cutSV l.toNat h.toNat v) fun y=>match i.d with
   | .slice _=>ob (elemOf T t) fun e=>chk ((seqOf H v).isSome=true∧szOK H e.2.size v=true) (some y)
   | .str=>(match v with
    | .str _=>some y
    |_=>none)
   |_=>none)
 | .fieldAddr t x f=>ob (fieldOf T t f) fun p=>ob (ev G env x) fun v=>chk (okPtr H v=true) (fieldPtr p.1 p.2 v)
 | .field t x f=>ob (fieldOf T t f) fun p=>ob (ev G env x) fun v=>chk (v.isAgg=true) (sub v p.1 p.2)
 | .indexAddr t x i=>ob (ev G env x) fun s=>ob (ev G env i) fun iv=>ob (asI iv) fun n=>
  bb (isPtr s) (ob (arrOf T t) fun p=>chk ((0≤n∧n<(p.1:Int))∧okPtr H s=true) (fieldPtr (n.toNat*p.2.size) p.2 s))
  (ob (elemOf T t) fun e=>ob (seqOf H s) fun xs=>
  chk (0≤n) (ob xs[n.toNat]? fun y=>match s with
   | .list sz _=>chk (sz=e.2.size) (some (.pto y))
   | .sl id g off _=>ob (blkOf H id g) fun b=>chk (b.1=e.2.size) (some (.ptr id g (off+n.toNat) 0))
   |_=>none))
 | .index t x i=>ob (T.get t) fun ti=>ob (ev G env x) fun s=>ob (ev G env i) fun iv=>ob (asI iv) fun n=>(match ti.d,s with
  | .str,.str bs=>chk (0≤n) (ob bs[n.toNat]? fun b=>some (.int .u8 b.toNat))
  | .array m e,.agg fs=>chk (0≤n∧n<(m:Int)) (ob (T.get e) fun ie=>sub (.agg fs) (n.toNat*ie.size) ie)
  |_,_=>none)
 | .lookup t m key ok=>ob (mapTypes T t) fun p=>ob (ev G env m) fun v=>ob (mapOf H p.1 v) fun es=>ob (ev G env key) fun kx=>chk (keyIs p.1 kx=true)
  (some (if ok then .tuple [(findSV es kx).getD p.2.zero,.bool (findSV es kx).isSome] else (findSV es kx).getD p.2.zero))
 | .extract x j=>ob (ev G env x) fun v=>match v with
  | .tuple xs=>xs[j]?
  |_=>none
 | .call ⟨.builtin .len,⟨[x]⟩,⟨[t]⟩⟩=>ob (T.get t) fun i=>ob (ev G env x) fun v=>lenV H i v
 | .call ⟨.builtin .min,⟨[x,y]⟩,_⟩=>ob (ev G env x) fun x=>ob (ev G env y) fun y=>match x,y with
  | .int i a,.int _ b=>chk (i.min≤b∧b≤i.max) (some (.int i (if b<a then b else a)))
  |_,_=>none
 | .call ⟨.builtin .max,⟨[x,y]⟩,_⟩=>ob (ev G env x) fun x=>ob (ev G env y) fun y=>match x,y with
  | .int i a,.int _ b=>chk (i.min≤b∧b≤i.max) (some (.int i (if a<b then b else a)))
  |_,_=>none
 |_=>none
def appV (H:List Blk) (e:TI) (s:SV) (ys:List SV):Option (SV×List Blk):=
 match s with
 | .nil=>chk (0<e.bytes∧ys.length*e.bytes≤70368744177664) (some (.sl H.length 0 0 ys.length,H++[.cells 0 e.size ys]))
 | .sl id g off len=>ob (blkOf H id g) fun b=>chk ((0<e.bytes∧b.1=e.size)∧off+len=b.2.length∧(len+ys.length)*e.bytes≤70368744177664)
  (some (.sl id (g+1) 0 (len+ys.length),H.set id (.cells (g+1) e.size (b.2.drop off++ys))))
 |_=>none
def appI (H:List Blk) (e:TI) (s:SV) (ys:List SV):Option (SV×List Blk):=
 match s with
 | .sl id g off len=>ob (blkOf H id g) fun b=>chk ((0<e.bytes∧b.1=e.size)∧(len+ys.length)*e.bytes≤70368744177664∧0<e.size∧off+len+ys.length≤b.2.length)
  (some (.sl id g off (len+ys.length),H.set id (.cells g e.size (b.2.take (off+len)++ys++b.2.drop (off+len+ys.length)))))
 |_=>none
def copyV (H:List Blk) (e:TI) (d:SV) (ys:List SV):Option (SV×List Blk):=
 match d with
 | .sl id g off len=>ob (blkOf H id g) fun b=>chk (b.1=e.size∧0<e.size∧off+len≤b.2.length)
  (some (.int .i64 (min ys.length len:Nat),H.set id (.cells g e.size (b.2.take off++ys.take (min ys.length len)++b.2.drop (off+min ys.length len)))))
 |_=>none
def clearV (H:List Blk) (e:TI) (x:SV):Option (SV×List Blk):=
 match x with
 | .nil=>some (.tuple [],H)
 | .sl id g off len=>ob (blkOf H id g) fun b=>chk (b.1=e.size∧0<e.size∧off+len≤b.2.length)
  (some (.tuple [],H.set id (.cells g e.size (b.2.take off++List.replicate len e.zero++b.2.drop (off+len)))))
 |_=>none
def lv (G:Gl) (T:Tab) (own:List Nat) (env:Env) (H:List Blk) (dst:Option Nat) (ty:Nat):Op→Option (SV×List Blk)
 | .assign x=>bb (isIn dst own) (ob (elemOf T ty) fun e=>ob (ev G env x) fun v=>match v with
  | .nil=>some (.sl H.length 0 0 0,H++[.cells 0 e.2.size []])
  |_=>none) none
 | .alloc t=>ob (T.get t) fun i=>some (.ptr H.length 0 0 0,H++[.cells 0 i.size [i.zero]])
 | .box t x=>ob (T.get t) fun i=>ob (ev G env x) fun v=>chk (fits i v=true) (some (.ptr H.length 0 0 0,H++[.cells 0 i.size [v]]))
 | .buildSlice t len parts=>ob (elemOf T t) fun e=>chk (((len*e.2.size≤16777216∧0<e.2.size)∧fits e.2 e.2.zero=true)∧(len==0||isIn dst own)=true) (ob (fillAll e.2 G env (List.replicate len e.2.zero) parts.toList) fun xs=>
  some (.sl H.length 0 0 len,H++[.cells 0 e.2.size xs]))
 | .store t x y=>ob (T.get t) fun i=>ob (ev G env x) fun p=>ob (ev G env y) fun v=>ob (storeSV H i v p) fun H'=>some (.undef,H')
 | .makeMap t none=>ob (mapTypes T t) fun p=>some (.map H.length,H++[.map p.1 []])
 | .convert st dt x=>ob (T.get st) fun si=>ob (T.get dt) fun i=>ob (ev G env x) fun v=>match i.d,v with
  | .slice e,.sl id g off len=>chk (isU8 T e=true∧st=dt∧0<len) (ob (blkOf H id g) fun b=>chk (b.1=1) (some (.sl id g off len,H)))
  | .slice e,.str s=>chk (isU8 T e=true) (some (.sl H.length 0 0 s.length,H++[.cells 0 1 (strBytes s)]))
  | .str,.str _=>none
  | .str,v=>chk (sliceU8 T si.d=true∧szOK H 1 v=true) (ob (seqOf H v) fun xs=>ob (strOf xs) fun s=>some (.str s,H))
  |_,_=>none
 | .makeSlice t x y=>ob (elemOf T t) fun e=>ob (ev G env x) fun xv=>ob (asI xv) fun n=>ob (ev G env y) fun yv=>ob (asI yv) fun m=>
  chk (m=n∧0≤n∧0<e.2.bytes∧0<e.2.size∧n.toNat*e.2.bytes≤70368744177664) (chk (fits e.2 e.2.zero=true) (some (.sl H.length 0 0 n.toNat,H++[.cells 0 e.2.size (List.replicate n.toNat e.2.zero)])))
 | .slice t x lo (some hi) (some mx)=>ob (elemOf T t) fun e=>ob (ev G env x) fun v=>ob (lenSV H v) fun n=>ob (boundOf G env lo 0) fun l=>ob (boundOf G env (some hi) 0) fun h=>ob (boundOf G env (some mx) 0) fun m=>
  chk (0≤l∧l≤h∧h≤m∧m≤(n:Int)) (chk ((seqOf H v).isSome=true) (some (.sl H.length 0 0 0,H++[.dead])))
 | .call ⟨.builtin .copy,⟨[d,s]⟩,⟨[t,ts]⟩⟩=>ob (elemOf T t) fun e=>ob (elemOf T ts) fun _=>ob (ev G env d) fun d=>ob (ev G env s) fun s=>ob (seqOf H s) fun ys=>chk (szOK H e.2.size s=true) (copyV H e.2 d ys)
 | .call ⟨.builtin .clear,⟨[x]⟩,⟨[t]⟩⟩=>ob (elemOf T t) fun e=>ob (ev G env x) fun x=>clearV H e.2 x
 | .mapUpdate t m key x=>ob (mapTypes T t) fun p=>ob (ev G env m) fun v=>(match v with
  | .map id=>ob (mapOf H p.1 v) fun es=>ob (ev G env key) fun kx=>ob (ev G env x) fun y=>chk (keyIs p.1 kx=true) (some (.undef,H.set id (.map p.1 (setSV es kx y))))
  |_=>none)
 | .insert t m key x=>ob (mapTypes T t) fun p=>ob (ev G env m) fun v=>(match v with
  | .map id=>ob (mapOf H p.1 v) fun es=>ob (ev G env key) fun kx=>ob (ev G env x) fun y=>chk (keyIs p.1 kx=true) (some (.undef,H.set id (.map p.1 (setSV es kx y))))
  |_=>none)
 | .call ⟨.builtin .append,⟨[s,x]⟩,⟨[t,tx]⟩⟩=>ob (elemOf T t) fun e=>ob (T.get tx) fun ix=>ob (ev G env s) fun s=>ob (ev G env x) fun x=>
  match ix.d with
  | .slice _=>ob (seqOf H x) fun ys=>chk (szOK H e.2.size x=true) (appV H e.2 s ys)
  | .str=>(match x with
   | .str bs=>chk (e.2.size=1) (appV H e.2 s (strBytes bs))
   |_=>none)
  |_=>none
 |_=>none
section
variable {P:Program} {G:Gl} {T:Tab} {own:List Nat} {nt B:Nat} {ρ:Option Nat} {C:Cx} {env:Env} {H:List Blk}
theorem bb_eq {α:Type} {b:Bool} {x y:Option α} {r:α} (h:bb b x y=some r):(b=true∧x=some r)∨(b=false∧y=some r):=by
 cases b
 ·exact .inr ⟨rfl,h⟩
 ·exact .inl ⟨rfl,h⟩
theorem lenV_ok {i:TI} {v r:SV} {k:SV→List Blk→Prop} (h:lenV H i v=some r) (hk:k r H):Need (lenFits H i.d v=true) (bindO (lenSV H v) fun n=>match i.d with
 | .map _ _=>Need (n≤9223372036854775807) (k (.int .i64 n) H)
 |_=>k (.int .i64 n) H):=by
 obtain⟨h1,h2⟩:=chk_eq h
 obtain⟨n,h3,h4⟩:=ob_eq h2
 refine⟨h1,n,h3,?_⟩
 split at h4
 ·obtain⟨h5,h6⟩:=chk_eq h4
  cases h6
  exact⟨h5,hk⟩
 ·cases h4
  exact hk
theorem qv_ok {dst:Option Nat} {ty:Nat} {op:Op} {v:SV} {k:SV→List Blk→Prop} (h:qv G T own env H dst ty op=some v) (hk:k v H):exOp P G T own env H dst ty op k:=by
 unfold qv at h
 split at h
 ·exact⟨_,h,hk⟩
 ·rcases bb_eq h with⟨h1,h2⟩|⟨h1,h2⟩
  ·obtain⟨e,h3,h4⟩:=ob_eq h2
   obtain⟨u,h5,h6⟩:=ob_eq h4
   refine And.intro (fun _=>⟨e,h3,u,h5,?_⟩) (fun h=>by rw[h1] at h;cases h)
   cases u<;>first
    |(cases h6;done)
    |(cases h6;exact hk)
  ·exact And.intro (fun h=>by rw[h1] at h;cases h) (fun _=>⟨v,h2,hk⟩)
 ·obtain⟨u,h1,h2⟩:=ob_eq h
  obtain⟨g,h3,h4⟩:=ob_eq h2
  obtain⟨X,h5,h6⟩:=ob_eq h4
  obtain⟨Y,h7,h8⟩:=ob_eq h6
  cases h8
  refine⟨u,h1,g,h3,And.intro (fun hg=>?_) (fun hg=>?_)⟩
  ·rw[hg] at hk;exact⟨_,h5,hk⟩
  ·rw[hg] at hk;exact⟨_,h7,hk⟩
 ·obtain⟨i,h1,h2⟩:=ob_eq h
  obtain⟨h3,h4⟩:=chk_eq h2
  obtain⟨ps,h5,h6⟩:=ob_eq h4
  exact⟨i,h1,h3,ps,h5,v,h6,hk⟩
 ·obtain⟨i,h1,h2⟩:=ob_eq h
  obtain⟨⟨h3,h3'⟩,h4⟩:=chk_eq h2
  obtain⟨ps,h5,h6⟩:=ob_eq h4
  cases h6
  refine⟨i,h1,h3,ps,h5,?_⟩
  exact And.intro (fun hh=>by rw[h3'] at hh;cases hh) (fun _=>hk)
 ·obtain⟨i,h1,h2⟩:=ob_eq h
  obtain⟨p,h3,h4⟩:=ob_eq h2
  exact⟨i,h1,p,h3,v,h4,hk⟩
 ·obtain⟨u,h1,h2⟩:=ob_eq h
  obtain⟨h3,h4⟩:=chk_eq h2
  cases h4
  exact⟨_,h1,h3,hk⟩
 ·obtain⟨a,h1,h2⟩:=ob_eq h
  obtain⟨b,h3,h4⟩:=ob_eq h2
  rcases bb_eq h4 with⟨hn,h5⟩|⟨hn,h5⟩
  ·exact⟨a,h1,b,h3,And.intro (fun _=>ifcV_ok h5 hk) (fun hh=>by rw[hn] at hh;cases hh)⟩
  ·exact⟨a,h1,b,h3,And.intro (fun hh=>by rw[hn] at hh;cases hh) (fun _=>binV_ok h5 hk)⟩
 ·obtain⟨a,h1,h2⟩:=ob_eq h
  refine⟨a,h1,?_⟩
  unfold unV at h2
  split at h2
  ·cases h2;exact hk
  ·cases h2;exact hk
  ·cases h2
 ·obtain⟨i,h1,h2⟩:=ob_eq h
  obtain⟨j,h3,h4⟩:=ob_eq h2
  obtain⟨u,h5,h6⟩:=ob_eq h4
  refine⟨i,h1,j,h3,u,h5,?_⟩
  obtain⟨d,a1,a2,a3⟩:=j
  cases d<;>cases u<;>first
   |(cases h6;done)
   |(cases h6;exact hk)
   |(obtain⟨g1,g2⟩:=chk_eq h6;obtain⟨xs,g3,g4⟩:=ob_eq g2;obtain⟨s,g5,g6⟩:=ob_eq g4;cases g6;exact⟨g1,xs,g3,s,g5,hk⟩)
 ·obtain⟨xs,h1,h2⟩:=ob_eq h
  obtain⟨ys,h3,h4⟩:=ob_eq h2
  cases h4
  exact⟨xs,h1,ys,h3,hk⟩
 ·obtain⟨i,h1,h2⟩:=ob_eq h
  obtain⟨u,h3,h4⟩:=ob_eq h2
  obtain⟨n,h5,h6⟩:=ob_eq h4
  obtain⟨l,h7,h8⟩:=ob_eq h6
  obtain⟨hh,h9,h10⟩:=ob_eq h8
  obtain⟨h11,h12⟩:=chk_eq h10
  obtain⟨y,h13,h14⟩:=ob_eq h12
  refine⟨i,h1,u,h3,n,h5,l,h7,hh,h9,h11,y,h13,?_⟩
  obtain⟨d,a1,a2,a3⟩:=i
  cases d<;>simp only at h14 ⊢ <;>try (cases h14;done)
  ·cases u<;>first
    |(cases h14;done)
    |(cases h14;exact hk)
  ·obtain⟨e,g1,g2⟩:=ob_eq h14
   obtain⟨g3,g4⟩:=chk_eq g2
   cases g4
   exact⟨e,g1,g3.1,g3.2,hk⟩
 ·obtain⟨p,h1,h2⟩:=ob_eq h
  obtain⟨u,h3,h4⟩:=ob_eq h2
  obtain⟨h5,h6⟩:=chk_eq h4
  exact⟨p,h1,u,h3,h5,v,h6,hk⟩
 ·obtain⟨p,h1,h2⟩:=ob_eq h
  obtain⟨u,h3,h4⟩:=ob_eq h2
  obtain⟨h5,h6⟩:=chk_eq h4
  exact⟨p,h1,u,h3,h5,v,h6,hk⟩
 ·obtain⟨s,h3,h4⟩:=ob_eq h
  obtain⟨iv,h5,h6⟩:=ob_eq h4
  obtain⟨n,h7,h8⟩:=ob_eq h6
  refine⟨s,h3,iv,h5,n,h7,?_⟩
  rcases bb_eq h8 with⟨hp,h8⟩|⟨hp,h8⟩
  ·obtain⟨p,g1,g2⟩:=ob_eq h8
   obtain⟨g3,g4⟩:=chk_eq g2
   exact And.intro (fun _=>⟨p,g1,g3,v,g4,hk⟩) (fun h=>by rw[hp] at h;cases h)
  refine And.intro (fun h=>by rw[hp] at h;cases h) (fun _=>?_)
  obtain⟨e,h1,h8⟩:=ob_eq h8
  obtain⟨xs,h9,h10⟩:=ob_eq h8
  obtain⟨h11,h12⟩:=chk_eq h10
  obtain⟨y,h13,h14⟩:=ob_eq h12
  refine⟨e,h1,xs,h9,h11,y,h13,?_⟩
  split at h14
  ·obtain⟨g1,g2⟩:=chk_eq h14
   cases g2
   exact⟨g1,hk⟩
  ·obtain⟨b,g1,g2⟩:=ob_eq h14
   obtain⟨g3,g4⟩:=chk_eq g2
   cases g4
   exact⟨b,g1,g3,hk⟩
  ·cases h14
 ·obtain⟨e,h1,h2⟩:=ob_eq h
  obtain⟨s,h3,h4⟩:=ob_eq h2
  obtain⟨iv,h5,h6⟩:=ob_eq h4
  obtain⟨n,h7,h8⟩:=ob_eq h6
  refine⟨e,h1,s,h3,iv,h5,n,h7,?_⟩
  obtain⟨d,a1,a2,a3⟩:=e
  cases d<;>cases s<;>try (cases h8;done)
  ·obtain⟨g1,g2⟩:=chk_eq h8
   obtain⟨b,g3,g4⟩:=ob_eq g2
   cases g4
   exact⟨g1,b,g3,hk⟩
  ·obtain⟨g1,g2⟩:=chk_eq h8
   obtain⟨b,g3,g4⟩:=ob_eq g2
   exact⟨g1,b,g3,v,g4,hk⟩
 ·obtain⟨p,h1,h2⟩:=ob_eq h
  obtain⟨m,h3,h4⟩:=ob_eq h2
  obtain⟨es,h5,h6⟩:=ob_eq h4
  obtain⟨kx,h7,h8⟩:=ob_eq h6
  obtain⟨g1,g2⟩:=chk_eq h8
  cases g2
  exact⟨p,h1,m,h3,es,h5,kx,h7,g1,hk⟩
 ·obtain⟨u,h1,h2⟩:=ob_eq h
  refine⟨u,h1,?_⟩
  split at h2
  ·exact⟨v,h2,hk⟩
  ·cases h2
 ·obtain⟨i,h1,h2⟩:=ob_eq h
  obtain⟨u,h3,h4⟩:=ob_eq h2
  exact⟨i,h1,u,h3,lenV_ok h4 hk⟩
 ·obtain⟨a,h1,h2⟩:=ob_eq h
  obtain⟨b,h3,h4⟩:=ob_eq h2
  refine⟨a,h1,b,h3,?_⟩
  split at h4
  ·obtain⟨g1,g2⟩:=chk_eq h4
   cases g2
   exact⟨g1,hk⟩
  ·cases h4
 ·obtain⟨a,h1,h2⟩:=ob_eq h
  obtain⟨b,h3,h4⟩:=ob_eq h2
  refine⟨a,h1,b,h3,?_⟩
  split at h4
  ·obtain⟨g1,g2⟩:=chk_eq h4
   cases g2
   exact⟨g1,hk⟩
  ·cases h4
 ·cases h
theorem appV_ok {e:TI} {s:SV} {ys:List SV} {v:SV} {H':List Blk} {k:SV→List Blk→Prop} (h:appV H e s ys=some (v,H')) (hk:k v H'):appendSV H e s ys k:=by
 unfold appV at h
 split at h
 ·obtain⟨h1,h2⟩:=chk_eq h
  cases h2
  exact⟨h1.1,h1.2,hk⟩
 ·obtain⟨b,h1,h2⟩:=ob_eq h
  obtain⟨h3,h4⟩:=chk_eq h2
  cases h4
  exact⟨b,h1,h3.1,h3.2.2,.inl ⟨h3.2.1,hk⟩⟩
 ·cases h
theorem appI_ok {e:TI} {s:SV} {ys:List SV} {v:SV} {H':List Blk} {k:SV→List Blk→Prop} (h:appI H e s ys=some (v,H')) (hk:k v H'):appendSV H e s ys k:=by
 unfold appI at h
 split at h
 ·obtain⟨b,h1,h2⟩:=ob_eq h
  obtain⟨h3,h4⟩:=chk_eq h2
  cases h4
  exact⟨b,h1,h3.1,h3.2.1,.inr ⟨h3.2.2.1,h3.2.2.2,hk⟩⟩
 ·cases h
def lvI (G:Gl) (T:Tab) (env:Env) (H:List Blk):Op→Option (SV×List Blk)
 | .call ⟨.builtin .append,⟨[s,x]⟩,⟨[t,tx]⟩⟩=>ob (elemOf T t) fun e=>ob (elemOf T tx) fun _=>ob (ev G env s) fun s=>ob (ev G env x) fun x=>ob (seqOf H x) fun ys=>chk (szOK H e.2.size x=true) (appI H e.2 s ys)
 |_=>none
theorem lvI_ok {dst:Option Nat} {ty:Nat} {op:Op} {v:SV} {H':List Blk} {k:SV→List Blk→Prop} (h:lvI G T env H op=some (v,H')) (hk:k v H'):exOp P G T own env H dst ty op k:=by
 unfold lvI at h
 split at h
 ·obtain⟨e,h1,h2⟩:=ob_eq h
  obtain⟨ex,h3,h4⟩:=ob_eq h2
  obtain⟨s,h5,h6⟩:=ob_eq h4
  obtain⟨x,h7,h8⟩:=ob_eq h6
  obtain⟨ys,h9,h10⟩:=ob_eq h8
  obtain⟨h11,h12⟩:=chk_eq h10
  unfold elemOf at h3
  split at h3
  ·rename_i e' z1 z2 z3 hq
   exact⟨e,h1,_,hq,s,h5,x,h7,ys,h9,h11,appI_ok h12 hk⟩
  ·cases h3
 ·cases h
theorem lv_ok {dst:Option Nat} {ty:Nat} {op:Op} {v:SV} {H':List Blk} {k:SV→List Blk→Prop} (h:lv G T own env H dst ty op=some (v,H')) (hk:k v H'):exOp P G T own env H dst ty op k:=by
 unfold lv at h
 split at h
 ·rcases bb_eq h with⟨h1,h2⟩|⟨h1,h2⟩
  ·obtain⟨e,h3,h4⟩:=ob_eq h2
   obtain⟨u,h5,h6⟩:=ob_eq h4
   refine And.intro (fun _=>⟨e,h3,u,h5,?_⟩) (fun h=>by rw[h1] at h;cases h)
   cases u<;>first
    |(cases h6;done)
    |(cases h6;exact hk)
  ·cases h2
 ·obtain⟨i,h1,h2⟩:=ob_eq h
  cases h2
  exact⟨i,h1,hk⟩
 ·obtain⟨i,h1,h2⟩:=ob_eq h
  obtain⟨u,h3,h4⟩:=ob_eq h2
  obtain⟨h5,h6⟩:=chk_eq h4
  cases h6
  exact⟨i,h1,u,h3,h5,hk⟩
 ·obtain⟨i,h1,h2⟩:=ob_eq h
  obtain⟨⟨h3,h3'⟩,h4⟩:=chk_eq h2
  obtain⟨ps,h5,h6⟩:=ob_eq h4
  cases h6
  refine⟨i,h1,h3,ps,h5,?_⟩
  exact And.intro (fun _=>hk) (fun hh=>by rw[h3'] at hh;cases hh)
 ·obtain⟨i,h1,h2⟩:=ob_eq h
  obtain⟨p,h3,h4⟩:=ob_eq h2
  obtain⟨u,h5,h6⟩:=ob_eq h4
  obtain⟨H2,h7,h8⟩:=ob_eq h6
  cases h8
  exact⟨i,h1,p,h3,u,h5,_,h7,hk⟩
 ·obtain⟨i,h1,h2⟩:=ob_eq h
  cases h2
  exact⟨i,h1,hk⟩
 ·obtain⟨i,h1,h2⟩:=ob_eq h
  obtain⟨j,h3,h4⟩:=ob_eq h2
  obtain⟨u,h5,h6⟩:=ob_eq h4
  refine⟨i,h1,j,h3,u,h5,?_⟩
  obtain⟨d,a1,a2,a3⟩:=j
  cases d<;>cases u<;>first
   |(cases h6;done)
   |(obtain⟨g1,g2⟩:=chk_eq h6;cases g2;exact⟨g1,hk⟩)
   |(obtain⟨g1,g2⟩:=chk_eq h6;obtain⟨b,g3,g4⟩:=ob_eq g2;obtain⟨g5,g6⟩:=chk_eq g4;cases g6;exact⟨g1,b,g3,g5,hk⟩)
   |(obtain⟨g1,g2⟩:=chk_eq h6;obtain⟨xs,g3,g4⟩:=ob_eq g2;obtain⟨s,g5,g6⟩:=ob_eq g4;cases g6;exact⟨g1,xs,g3,s,g5,hk⟩)
 ·obtain⟨e,h1,h⟩:=ob_eq h
  obtain⟨xv,h2,h⟩:=ob_eq h
  obtain⟨n,h3,h⟩:=ob_eq h
  obtain⟨yv,h4,h⟩:=ob_eq h
  obtain⟨m,h5,h⟩:=ob_eq h
  obtain⟨h6,h⟩:=chk_eq h
  obtain⟨h7,h⟩:=chk_eq h
  cases h
  exact⟨e,h1,xv,h2,n,h3,yv,h4,m,h5,h6,h7,hk⟩
 ·obtain⟨e,h1,h⟩:=ob_eq h
  obtain⟨xv,h2,h⟩:=ob_eq h
  obtain⟨n,h3,h⟩:=ob_eq h
  obtain⟨l,h4,h⟩:=ob_eq h
  obtain⟨hh,h5,h⟩:=ob_eq h
  obtain⟨m,h6,h⟩:=ob_eq h
  obtain⟨h7,h⟩:=chk_eq h
  obtain⟨h8,h⟩:=chk_eq h
  cases h
  exact⟨e,h1,xv,h2,n,h3,l,h4,hh,h5,m,h6,h7,h8,hk⟩
 ·obtain⟨e,h1,h⟩:=ob_eq h
  obtain⟨e',h2,h⟩:=ob_eq h
  obtain⟨d,h3,h⟩:=ob_eq h
  obtain⟨s,h4,h⟩:=ob_eq h
  obtain⟨ys,h5,h⟩:=ob_eq h
  obtain⟨h6,h⟩:=chk_eq h
  refine⟨e,h1,e',h2,d,h3,s,h4,ys,h5,h6,?_⟩
  unfold copyV at h
  cases d<;>try (cases h;done)
  obtain⟨b,h7,h⟩:=ob_eq h
  obtain⟨h8,h⟩:=chk_eq h
  cases h
  exact⟨b,h7,h8,hk⟩
 ·obtain⟨e,h1,h⟩:=ob_eq h
  obtain⟨xv,h2,h⟩:=ob_eq h
  refine⟨e,h1,xv,h2,?_⟩
  unfold clearV at h
  cases xv<;>try (cases h;done)
  ·cases h;exact hk
  ·obtain⟨b,h7,h⟩:=ob_eq h
   obtain⟨h8,h⟩:=chk_eq h
   cases h
   exact⟨b,h7,h8,hk⟩
 ·obtain⟨p,h1,h2⟩:=ob_eq h
  obtain⟨u,h3,h4⟩:=ob_eq h2
  refine⟨p,h1,u,h3,?_⟩
  cases u<;>try (cases h4;done)
  obtain⟨es,h5,h6⟩:=ob_eq h4
  obtain⟨kx,h7,h8⟩:=ob_eq h6
  obtain⟨y,h9,h10⟩:=ob_eq h8
  obtain⟨g1,g2⟩:=chk_eq h10
  cases g2
  exact⟨es,h5,kx,h7,y,h9,g1,hk⟩
 ·obtain⟨p,h1,h2⟩:=ob_eq h
  obtain⟨u,h3,h4⟩:=ob_eq h2
  refine⟨p,h1,u,h3,?_⟩
  cases u<;>try (cases h4;done)
  obtain⟨es,h5,h6⟩:=ob_eq h4
  obtain⟨kx,h7,h8⟩:=ob_eq h6
  obtain⟨y,h9,h10⟩:=ob_eq h8
  obtain⟨g1,g2⟩:=chk_eq h10
  cases g2
  exact⟨es,h5,kx,h7,y,h9,g1,hk⟩
 ·obtain⟨e,h1,h2⟩:=ob_eq h
  obtain⟨ix,h3,h4⟩:=ob_eq h2
  obtain⟨s,h5,h6⟩:=ob_eq h4
  obtain⟨x,h7,h8⟩:=ob_eq h6
  refine⟨e,h1,ix,h3,s,h5,x,h7,?_⟩
  obtain⟨d,a1,a2,a3⟩:=ix
  cases d<;>simp only at h8 ⊢ <;>try (cases h8;done)
  ·cases x<;>simp only at h8 ⊢ <;>try (cases h8;done)
   obtain⟨g1,g2⟩:=chk_eq h8
   exact⟨g1,appV_ok g2 hk⟩
  ·obtain⟨ys,g1,g2⟩:=ob_eq h8
   obtain⟨g3,g4⟩:=chk_eq g2
   exact⟨ys,g1,g3,appV_ok g4 hk⟩
 ·cases h
end
end
section
section
variable {P:Program} {G:Gl} {T:Tab} {own:List Nat} {nt B:Nat} {ρ:Option Nat} {C:Cx} {env env2:Env} {H:List Blk}
theorem evs_congr:∀ {l:List Operand},(∀ x∈l,ev G env x=ev G env2 x)→evs G env l=evs G env2 l
 |[],_=>rfl
 |x::r,h=>by
  simp only[evs]
  rw[h x (by simp),evs_congr (l:=r) (fun y hy=>h y (by simp[hy]))]
theorem partsOf_congr {d:TD}:∀ {l:List (Nat×Operand)},(∀ x∈l.map (·.2),ev G env x=ev G env2 x)→partsOf T d G env l=partsOf T d G env2 l
 |[],_=>rfl
 |(j,x)::r,h=>by
  simp only[partsOf]
  rw[h x (by simp),partsOf_congr (l:=r) (fun y hy=>h y (by simp only[List.map_cons,List.mem_cons];exact .inr hy))]
theorem fillAll_congr {i:TI}:∀ {l:List (Nat×Operand)} {xs:List SV},(∀ x∈l.map (·.2),ev G env x=ev G env2 x)→fillAll i G env xs l=fillAll i G env2 xs l
 |[],_,_=>rfl
 |(j,x)::r,xs,h=>by
  simp only[fillAll]
  rw[h x (by simp)]
  cases ev G env2 x with
  |none=>rfl
  |some v=>
   simp only
   split
   ·exact fillAll_congr (fun y hy=>h y (by simp only[List.map_cons,List.mem_cons];exact .inr hy))
   ·rfl
theorem boundOf_congr {o:Option Operand} {d:Int} (h:∀ x∈o,ev G env x=ev G env2 x):boundOf G env o d=boundOf G env2 o d:=by
 cases o with
 |none=>rfl
 |some x=>simp only[boundOf];rw[h x rfl]
theorem exBuiltin_congrO {b:Builtin} {args:List Operand} {tys:List Nat} {k:SV→List Blk→Prop} (h:∀ x∈args,ev G env x=ev G env2 x):exBuiltin T G env H b args tys k=exBuiltin T G env2 H b args tys k:=by
 unfold exBuiltin
 split
 all_goals first
  |rfl
  |(simp only[List.mem_cons,List.not_mem_nil,or_false,forall_eq_or_imp,forall_eq] at h;simp only[h])
def opds:Op→List Operand
 | .move x| .assign x| .box _ x| .load _ x| .nilCheck x| .unOp _ _ x| .convert _ _ x| .fieldAddr _ x _| .field _ x _| .extract x _=>[x]
 | .pick c x y=>[c,x,y]
 | .build _ ps| .buildSlice _ _ ps=>ps.toList.map (·.2)
 | .store _ x y| .binOp _ _ x y _| .indexAddr _ x y| .index _ x y| .lookup _ x y _=>[x,y]
 | .makeFunc _ f c=>f.toList++c.toList
 | .slice _ x l h m=>x::(l.toList++h.toList++m.toList)
 | .mapUpdate _ m k v=>[m,k,v]
 | .insert _ m k v=>[m,k,v]
 | .makeSlice _ x y=>[x,y]
 | .call c=>(match c.callee with
  | .value f=>[f]
  | .invoke r _=>[r]
  | .builtin _=>[])++c.args.toList
 |_=>[]
theorem exOp_congrO {dst:Option Nat} {ty:Nat} {op:Op} {k:SV→List Blk→Prop} (h:∀ x∈opds op,ev G env x=ev G env2 x):exOp P G T own env H dst ty op k=exOp P G T own env2 H dst ty op k:=by
 cases op
 case build t ps=>
  have e1:∀ d,partsOf T d G env ps.toList=partsOf T d G env2 ps.toList:=fun d=>partsOf_congr h
  simp only[exOp,e1]
 case buildSlice t n ps=>
  have e1:∀ (i:TI) xs,fillAll i G env xs ps.toList=fillAll i G env2 xs ps.toList:=fun d xs=>fillAll_congr h
  simp only[exOp,e1]
 case makeFunc f a b=>
  have e1:evs G env a.toList=evs G env2 a.toList:=evs_congr fun x hx=>h x (by simp only[opds,List.mem_append];exact .inl hx)
  have e2:evs G env b.toList=evs G env2 b.toList:=evs_congr fun x hx=>h x (by simp only[opds,List.mem_append];exact .inr hx)
  simp only[exOp,e1,e2]
 case slice t x l hh m=>
  have e0:ev G env x=ev G env2 x:=h x (by simp[opds])
  have e1:∀ d,boundOf G env l d=boundOf G env2 l d:=fun d=>boundOf_congr fun y hy=>h y (by simp[opds];exact .inr (.inl hy))
  have e2:∀ d,boundOf G env hh d=boundOf G env2 hh d:=fun d=>boundOf_congr fun y hy=>h y (by simp[opds];exact .inr (.inr (.inl hy)))
  cases m with
  |none=>simp only[exOp,e0,e1,e2]
  |some mm=>
   have e3:∀ d,boundOf G env (some mm) d=boundOf G env2 (some mm) d:=fun d=>boundOf_congr fun y hy=>h y (by simp[opds];exact .inr (.inr (.inr (by simpa [eq_comm] using hy))))
   cases hh with
   |none=>simp only[exOp]
   |some hv=>simp only[exOp,e0,e1,e2,e3]
 case makeMap t r=>cases r<;>rfl
 case call c=>
  obtain⟨cl,args,tys⟩:=c
  cases cl
  case value f=>
   have e0:ev G env f=ev G env2 f:=h f (by simp[opds])
   have e1:evs G env args.toList=evs G env2 args.toList:=evs_congr fun x hx=>h x (by simp only[opds,List.mem_append];exact .inr hx)
   simp only[exOp,e0,e1]
  case builtin b=>exact exBuiltin_congrO fun x hx=>h x (by simp only[opds,List.mem_append];exact .inr hx)
  case invoke r m=>simp only[exOp]
 all_goals first
  |rfl
  |(simp only[opds,List.mem_cons,List.not_mem_nil,or_false,forall_eq_or_imp,forall_eq] at h;simp only[exOp,h])
  |simp only[exOp]
theorem qv_congrO {dst:Option Nat} {ty:Nat} {op:Op} (h:∀ x∈opds op,ev G env x=ev G env2 x):qv G T own env H dst ty op=qv G T own env2 H dst ty op:=by
 cases op
 case build t ps=>
  have e1:∀ d,partsOf T d G env ps.toList=partsOf T d G env2 ps.toList:=fun d=>partsOf_congr h
  simp only[qv,e1]
 case buildSlice t n ps=>
  have e1:∀ (i:TI) xs,fillAll i G env xs ps.toList=fillAll i G env2 xs ps.toList:=fun d xs=>fillAll_congr h
  simp only[qv,e1]
 case makeFunc f a b=>
  have e1:evs G env a.toList=evs G env2 a.toList:=evs_congr fun x hx=>h x (by simp only[opds,List.mem_append];exact .inl hx)
  have e2:evs G env b.toList=evs G env2 b.toList:=evs_congr fun x hx=>h x (by simp only[opds,List.mem_append];exact .inr hx)
  simp only[qv,e1,e2]
 case slice t x l hh m=>
  have e0:ev G env x=ev G env2 x:=h x (by simp[opds])
  have e1:∀ d,boundOf G env l d=boundOf G env2 l d:=fun d=>boundOf_congr fun y hy=>h y (by simp[opds];exact .inr (.inl hy))
  have e2:∀ d,boundOf G env hh d=boundOf G env2 hh d:=fun d=>boundOf_congr fun y hy=>h y (by simp[opds];exact .inr (.inr (.inl hy)))
  cases m<;>simp only[qv,e0,e1,e2]
 case makeMap t r=>cases r<;>rfl
 case call c=>
  obtain⟨cl,args,tys⟩:=c
  cases cl
  case value f=>
   have e0:ev G env f=ev G env2 f:=h f (by simp[opds])
   have e1:evs G env args.toList=evs G env2 args.toList:=evs_congr fun x hx=>h x (by simp only[opds,List.mem_append];exact .inr hx)
   simp only[qv,e0,e1]
  case builtin b=>
   obtain⟨al⟩:=args
   obtain⟨tl⟩:=tys
   cases b<;>first
    |rfl
    |(rcases al with _|⟨x,_|⟨y,_|⟨z,al⟩⟩⟩<;>rcases tl with _|⟨t1,_|⟨t2,tl⟩⟩<;>first
     |rfl
     |(simp[opds] at h;simp only[qv,h]))
  case invoke r m=>simp only[qv]
 all_goals first
  |rfl
  |(simp only[opds,List.mem_cons,List.not_mem_nil,or_false,forall_eq_or_imp,forall_eq] at h;simp only[qv,h])
  |simp only[qv]
def EqE (env env2:Env):Prop:=∀ t,look env t=look env2 t
theorem EqE.refl (env:Env):EqE env env:=fun _=>rfl
theorem EqE.symm {env env2:Env} (h:EqE env env2):EqE env2 env:=fun t=>(h t).symm
theorem EqE.trans {a b c:Env} (h:EqE a b) (h2:EqE b c):EqE a c:=fun t=>(h t).trans (h2 t)
theorem EqE.cons {a b:Env} (h:EqE a b) (p:Nat×SV):EqE (p::a) (p::b):=fun t=>by
 obtain⟨k,v⟩:=p
 simp only[look,h t]
theorem EqE.shadow {env:Env} {d:Nat} {x:SV} (h:look env d=some x):EqE ((d,x)::env) env:=fun t=>by
 simp only[look]
 split
 ·rename_i e;rw[e,h]
 ·rfl
theorem bindO_mono {α:Type} {x:Option α} {f g:α→Prop} (h:∀ a,f a→g a):bindO x f→bindO x g:=fun⟨a,h1,h2⟩=>⟨a,h1,h a h2⟩
theorem Need_mono {p q r:Prop} (h:q→r):Need p q→Need p r:=fun⟨a,b⟩=>⟨a,h b⟩
theorem Br_mono {b:Bool} {p q p' q':Prop} (h1:p→p') (h2:q→q'):Br b p q→Br b p' q':=fun⟨x,y⟩=>⟨fun h=>h1 (x h),fun h=>h2 (y h)⟩
theorem binSV_mono {H:List Blk} {tb:Nat} {op:BinOp} {x y:SV} {k k':SV→Prop} (hk:∀ v,k v→k' v):binSV H tb op x y k→binSV H tb op x y k':=by
 unfold binSV
 repeat' first
  |exact hk _
  |exact id
  |refine bindO_mono fun _=>?_
  |refine Need_mono ?_
  |exact fun h=>⟨fun e=>hk _ (h.1 e),hk _ h.2⟩
  |split
theorem ifcSV_mono {b:Bool} {op:BinOp} {x:SV} {k k':SV→Prop} (hk:∀ v,k v→k' v):ifcSV b op x k→ifcSV b op x k':=by
 unfold ifcSV
 repeat' first
  |exact hk _
  |exact id
  |refine Need_mono ?_
  |split
theorem unSV_mono {op:UnOp} {x:SV} {k k':SV→Prop} (hk:∀ v,k v→k' v):unSV op x k→unSV op x k':=by
 unfold unSV
 repeat' first
  |exact hk _
  |exact id
  |split
theorem appendSV_mono {e:TI} {s:SV} {ys:List SV} {k k':SV→List Blk→Prop} (hk:∀ x H',k x H'→k' x H'):appendSV H e s ys k→appendSV H e s ys k':=by
 unfold appendSV
 repeat' first
  |exact hk _ _
  |exact fun h=>h.elim (fun h=> .inl ⟨h.1,hk _ _ h.2⟩) (fun h=> .inr ⟨h.1,h.2.1,hk _ _ h.2.2⟩)
  |exact id
  |refine bindO_mono fun _=>?_
  |refine Need_mono ?_
  |split
theorem exBuiltin_mono {b:Builtin} {args:List Operand} {tys:List Nat} {k k':SV→List Blk→Prop} (hk:∀ x H',k x H'→k' x H'):exBuiltin T G env H b args tys k→exBuiltin T G env H b args tys k':=by
 unfold exBuiltin
 repeat' first
  |exact hk _ _
  |exact id
  |refine bindO_mono fun _=>?_
  |refine Need_mono ?_
  |exact appendSV_mono hk
  |split
theorem exOp_mono {dst:Option Nat} {ty:Nat} {op:Op} {k k':SV→List Blk→Prop} (hk:∀ x H',k x H'→k' x H'):exOp P G T own env H dst ty op k→exOp P G T own env H dst ty op k':=by
 unfold exOp
 repeat' first
  |exact hk _ _
  |exact id
  |refine bindO_mono fun _=>?_
  |refine Need_mono ?_
  |refine Br_mono ?_ ?_
  |exact ifcSV_mono fun _=>hk _ _
  |exact binSV_mono fun _=>hk _ _
  |exact unSV_mono fun _=>hk _ _
  |exact exBuiltin_mono hk
  |exact fun h=>ACallV.mono h fun _ _=>hk _ _
  |split
end
end
section
inductive It where
 |code (c:Code)
 |ops (all l:List Oper)
 |pred (K:Env→List Blk→Prop)
 |blk (id:Nat)
def RetG (C:Cx) (T:Tab) (rs:List ResultVar) (R:SV→List Blk→Prop) (env:Env) (H:List Blk):Prop:=
 ∃ xs,resL T env H rs=some xs∧Fin C H (resSV xs) R
def Fits (all:List Oper) (i:Nat) (l:List Oper) (a:Act):Prop:=
 l=all.drop i∨∃ o r,all.drop i=o::r∧l=⟨o.dst,o.op,o.type,o.pos,o.after,none⟩::r∧Region.wanted o (yielded ⟨all⟩ a.tmps)=true
def OW (P:Program) (G:Gl) (T:Tab) (nt:Nat) (ρ:Option Nat) (C:Cx) (all l:List Oper) (K:Exit→St→Prop) (env:Env) (H:List Blk):Prop:=
 TabOK P T→∀ (i:Nat) (c:Cx) (a:Act),Fits all i l a→c.H=H→Inv G nt C.w.heap.size c env a→Grow C c→
  wpOpsIn (FR ρ) 0 P ⟨all⟩ (fun e a' w'=>∃ s' c',K e s'∧c'.H=s'.H∧c'.w=w'∧Inv G nt C.w.heap.size c' s'.env a'∧Grow C c') (List.range' i l.length) a c.w
def Out (P:Program) (G:Gl) (T:Tab) (own:List Nat) (nt:Nat) (ρ:Option Nat) (C:Cx) (rs:List ResultVar) (R:SV→List Blk→Prop):List It→Exit→Env→List Blk→Prop
 |[],.normal,env,H=>RetG C T rs R env H
 |[],.ret,env,H=>RetG C T rs R env H
 |[],_,_,_=>False
 | .code c::k,.normal,env,H=>AWP P G nt ρ C c (fun e s=>Out P G T own nt ρ C rs R k e s.env s.H) ⟨env,H⟩
 | .ops all l::k,.normal,env,H=>OW P G T nt ρ C all l (fun e s=>Out P G T own nt ρ C rs R k e s.env s.H) env H
 | .pred K::k,.normal,env,H=>∃ env',EqE env' env∧K env' H
 | .blk _::k,.normal,env,H=>Out P G T own nt ρ C rs R k .normal env H
 | .blk id::k,.exit id',env,H=>if id'=id then Out P G T own nt ρ C rs R k .normal env H else Out P G T own nt ρ C rs R k (.exit id') env H
 |_::k,e,env,H=>Out P G T own nt ρ C rs R k e env H
def unw (id:Nat):List It→Option (List It)
 |[]=>none
 | .blk id'::k=>bif Nat.beq id id' then some k else unw id k
 |_::k=>unw id k
section
variable {P:Program} {G:Gl} {T:Tab} {own:List Nat} {nt B:Nat} {ρ:Option Nat} {C:Cx} {rs:List ResultVar} {R:SV→List Blk→Prop} {env env2:Env} {H H':List Blk} {k:List It}
theorem resL_look (h:EqE env env2):∀ {l:List ResultVar},resL T env H l=resL T env2 H l
 |[]=>rfl
 | .tmp t::r=>by simp only[resL,h t,resL_look h (l:=r)]
 | .cell t ty::r=>by simp only[resL,h t,resL_look h (l:=r)]
def Same (o' o:Oper):Prop:=o'.dst=o.dst∧o'.op=o.op∧o'.type=o.type
theorem OW.nil {all:List Oper} {K:Exit→St→Prop} (h:K .normal ⟨env,H⟩):OW P G T nt ρ C all [] K env H:=fun hT i c a hi hc hinv hg=>⟨⟨env,H⟩,c,h,hc,rfl,hinv,hg⟩
theorem OW.step {all r:List Oper} {o:Oper} {K:Exit→St→Prop} (h:TabOK P T→∀ (c:Cx) (a:Act) (o':Oper),Same o' o→(o'=o∨(o.guard=none∧Region.wanted o' (yielded ⟨all⟩ a.tmps)=true))→c.H=H→Inv G nt C.w.heap.size c env a→Grow C c→∀ next:Act→World→Prop,
 (∀ env' c' a',Inv G nt C.w.heap.size c' env' a'→Grow c c'→OW P G T nt ρ C all r K env' c'.H→next a' c'.w)→
 if Region.wanted o' (yielded ⟨all⟩ a.tmps) then o'.wpIn (FR ρ) 0 P a c.w next (fun e a' w'=>∃ s' c',K e s'∧c'.H=s'.H∧c'.w=w'∧Inv G nt C.w.heap.size c' s'.env a'∧Grow C c') else (∀ f,o'.about P c.w a.eval=some f→(FR ρ).fn f)∧next (a.put o'.dst undef) c.w):
 OW P G T nt ρ C all (o::r) K env H:=by
 intro hT i c a hi hc hinv hg
 have key:∃ o',all.drop i=o'::r∧Same o' o∧(o'=o∨(o.guard=none∧Region.wanted o' (yielded ⟨all⟩ a.tmps)=true)):=by
  rcases hi with hi|⟨o',r',h1,h2,h3⟩
  ·exact⟨o,hi.symm,⟨rfl,rfl,rfl⟩,.inl rfl⟩
  ·cases h2;exact⟨o',h1,⟨rfl,rfl,rfl⟩,.inr ⟨rfl,h3⟩⟩
 obtain⟨o',hd,hs,ho⟩:=key
 have h1:(⟨all⟩:Array Oper)[i]? =some o':=by
  have:=congrArg (fun l=>l[0]?) hd
  simpa using this
 have h2:r=all.drop (i+1):=by
  have:=congrArg List.tail hd
  simpa using this.symm
 simp only[List.length_cons,List.range'_succ,wpOpsIn,h1]
 exact h hT c a o' hs ho hc hinv hg _ fun env' c' a' k1 k2 k3=>k3 hT (i+1) c' a' (.inl h2) rfl k1 (hg.trans k2)
theorem OW.run {all r:List Oper} {o:Oper} {K:Exit→St→Prop} (hw:∀ (c:Cx) (a:Act),c.H=H→Inv G nt C.w.heap.size c env a→Region.wanted o (yielded ⟨all⟩ a.tmps)=true)
 (h:exOp P G T own env H o.dst o.type o.op fun x H'=>putK nt o.dst x env fun env'=>OW P G T nt ρ C all r K env' H'):OW P G T nt ρ C all (o::r) K env H:=
 OW.step fun hT c a o' hs ho hc hinv hg next hn=>by
  subst hc
  have hwant:Region.wanted o' (yielded ⟨all⟩ a.tmps)=true:=by
   rcases ho with rfl|ho
   ·exact hw c a rfl hinv
   ·exact ho.2
  rw[if_pos hwant]
  obtain⟨s1,s2,s3⟩:=hs
  rw[← s1,← s2,← s3] at h
  refine exOp_wp hT hinv h fun x c' u e1 e2 e3 e4=>?_
  cases hd:o'.dst with
  |none=>
   rw[hd] at e1
   exact hn env c' _ (hinv.put_none e4 e2) e4 e1
  |some d=>
   rw[hd] at e1
   exact hn _ c' _ (hinv.put e4 e2 e3 e1.1) e4 e1.2
theorem OW.cons {all r:List Oper} {o:Oper} {K:Exit→St→Prop} (hg:o.guard=none) (h:exOp P G T own env H o.dst o.type o.op fun x H'=>putK nt o.dst x env fun env'=>OW P G T nt ρ C all r K env' H'):OW P G T nt ρ C all (o::r) K env H:=
 OW.run (fun c a _ _=>by simp only[Region.wanted,hg]) h
theorem OW.gRun {all r:List Oper} {o:Oper} {K:Exit→St→Prop} {j dj:Nat} {want:Bool} (hg:o.guard=some (j,want)) (h1:(all[j]?).bind (·.dst)=some dj) (h2:look env dj=some (.bool want)) (h:OW P G T nt ρ C all (⟨o.dst,o.op,o.type,o.pos,o.after,none⟩::r) K env H):OW P G T nt ρ C all (o::r) K env H:=by
 intro hT i c a hi hc hinv hgr
 refine h hT i c a (.inr ⟨o,r,?_,rfl,?_⟩) hc hinv hgr
 ·rcases hi with hi|⟨o',r',e1,e2,e3⟩
  ·exact hi.symm
  ·cases e2;cases hg
 ·simp only[Region.wanted,hg,yielded_ok hinv (ops:=⟨all⟩) h1 h2 rfl,beq_self_eq_true]
theorem OW.gSkip {all r:List Oper} {o:Oper} {K:Exit→St→Prop} {j dj:Nat} {want:Bool} {v:SV} {g:Option Bool} (hg:o.guard=some (j,want)) (h1:(all[j]?).bind (·.dst)=some dj) (h2:look env dj=some v) (h3:asG v=some g) (hgw:(g==some want)=false)
 (hs:putK nt o.dst .undef env fun env'=>OW P G T nt ρ C all r K env' H):OW P G T nt ρ C all (o::r) K env H:=by
 refine OW.step fun hT c a o' hs' ho hc hinv hgr next hn=>?_
 have ho':o'=o:=by
  rcases ho with ho|ho
  ·exact ho
  ·rw[hg] at ho;cases ho.1
 subst ho'
 subst hc
 rw[if_neg (by simp only[Region.wanted,hg,yielded_ok hinv (ops:=⟨all⟩) h1 h2 h3,hgw];simp)]
 refine⟨fun _ _=>trivial,?_⟩
 cases hd:o'.dst with
 |none=>rw[hd] at hs;exact hn env c _ (hinv.put_none (Grow.refl c) hinv.heap) (Grow.refl c) hs
 |some d=>rw[hd] at hs;exact hn _ c _ (hinv.put (Grow.refl c) hinv.heap Rep.undef hs.1) (Grow.refl c) hs.2
theorem OW.law {all r:List Oper} {o:Oper} {K:Exit→St→Prop} {R0:SV→List Blk→Prop} {d:Nat} (hg:o.guard=none) (hd:o.dst=some d) (hdn:Nat.blt d nt=true)
 (h:TabOK P T→∀ (c:Cx) (a:Act) (o':Oper),Same o' o→c.H=H→Inv G nt C.w.heap.size c env a→Grow C c→∀ (next:Act→World→Prop) (Q:Exit→Act→World→Prop),(∀ x c' u,R0 x c'.H→HeapOK c'→Rep c' x u→Grow c c'→next (a.put (some d) u) c'.w)→o'.wpIn (FR ρ) 0 P a c.w next Q)
 (hk:∀ x H',R0 x H'→OW P G T nt ρ C all r K ((d,x)::env) H'):OW P G T nt ρ C all (o::r) K env H:=
 OW.step fun hT c a o' hs ho hc hinv hgr next hn=>by
  have hwant:Region.wanted o' (yielded ⟨all⟩ a.tmps)=true:=by
   rcases ho with rfl|ho
   ·simp only[Region.wanted,hg]
   ·exact ho.2
  rw[if_pos hwant]
  have hdn':d<nt:=by have:=Nat.blt_eq ▸ hdn;exact this
  exact h hT c a o' hs hc hinv hgr next _ fun x c' u e1 e2 e3 e4=>hn _ c' _ (hinv.put e4 e2 e3 hdn') e4 (hk x c'.H e1)
theorem OW.eqE {all l:List Oper} {K:Exit→St→Prop} (he:EqE env env2) (h:OW P G T nt ρ C all l K env H):OW P G T nt ρ C all l K env2 H:=fun hT i c a hi hc hinv hg=>
 h hT i c a hi hc ⟨hinv.heap,hinv.glob,hinv.size,fun t x hx=>hinv.env t x (by rw[← he t];exact hx),hinv.defs⟩ hg
theorem Out.eqE:∀ {k:List It} {e:Exit} {env env2:Env} {H:List Blk},EqE env env2→(Out P G T own nt ρ C rs R) k e env H→(Out P G T own nt ρ C rs R) k e env2 H
 |[],e,env,env2,H,he,h=>by
  have hr:RetG C T rs R env H→RetG C T rs R env2 H:=fun⟨xs,h1,h2⟩=>⟨xs,by rw[← resL_look he];exact h1,h2⟩
  cases e with
  |normal=>exact hr h
  |ret=>exact hr h
  |_=>exact h
 | .code c::k,e,env,env2,H,he,h=>by
  cases e with
  |normal=>exact AWP.wk (Wk.env (fun t x hx=>by rw[← he t];exact hx)) h
  |_=>exact Out.eqE (k:=k) he h
 | .ops all l::k,e,env,env2,H,he,h=>by
  cases e with
  |normal=>exact OW.eqE he h
  |_=>exact Out.eqE (k:=k) he h
 | .pred K::k,e,env,env2,H,he,h=>by
  cases e with
  |normal=>obtain⟨env',h1,h2⟩:=h;exact⟨env',h1.trans he,h2⟩
  |_=>exact Out.eqE (k:=k) he h
 | .blk id::k,e,env,env2,H,he,h=>by
  cases e with
  |normal=>exact Out.eqE (k:=k) he h
  |exit id'=>
   simp only[Out] at h ⊢
   split
   ·rename_i hh;rw[if_pos hh] at h;exact Out.eqE he h
   ·rename_i hh;rw[if_neg hh] at h;exact Out.eqE he h
  |_=>exact Out.eqE (k:=k) he h
theorem go_seq {x y:Code} (h:(Out P G T own nt ρ C rs R) (.code x:: .code y::k) .normal env H):(Out P G T own nt ρ C rs R) (.code (.seq x y)::k) .normal env H:=by
 refine AWP.seq (AWP.mono h ?_)
 rintro e ⟨env',H'⟩ h'
 cases e with
 |normal=>exact h'
 |_=>exact h'
theorem go_skip (h:(Out P G T own nt ρ C rs R) k .normal env H):(Out P G T own nt ρ C rs R) (.code .skip::k) .normal env H:=AWP.skip h
theorem go_label {l:Nat} (h:(Out P G T own nt ρ C rs R) k .normal env H):(Out P G T own nt ρ C rs R) (.code (.label l)::k) .normal env H:=fun c a hc hi hg=>wpIn_label ⟨⟨env,H⟩,c,h,hc,rfl,hi,hg⟩
theorem Out.rets (h:RetG C T rs R env H):∀ {k:List It},(Out P G T own nt ρ C rs R) k .ret env H
 |[]=>h
 | .code _::k=>Out.rets (k:=k) h
 | .ops _ _::k=>Out.rets (k:=k) h
 | .pred _::k=>Out.rets (k:=k) h
 | .blk _::k=>Out.rets (k:=k) h
theorem go_ret {xs:List SV} (h1:resL T env H rs=some xs) (h:Fin C H (resSV xs) R):(Out P G T own nt ρ C rs R) (.code .ret::k) .normal env H:=AWP.ret (Out.rets ⟨xs,h1,h⟩)
theorem go_end {xs:List SV} (h1:resL T env H rs=some xs) (h:Fin C H (resSV xs) R):(Out P G T own nt ρ C rs R) [] .normal env H:=⟨xs,h1,h⟩
theorem Out.exits {id:Nat}:∀ {k k':List It},unw id k=some k'→(Out P G T own nt ρ C rs R) k' .normal env H→(Out P G T own nt ρ C rs R) k (.exit id) env H
 |[],k',hu,h=>by cases hu
 | .blk id'::k,k',hu,h=>by
  simp only[unw] at hu
  simp only[Out]
  by_cases hid:id=id'
  ·rw[if_pos hid]
   subst hid
   rw[show Nat.beq id id=true from Nat.beq_refl id] at hu
   cases hu;exact h
  ·rw[if_neg hid]
   have:Nat.beq id id'=false:=by
    cases hb:Nat.beq id id' with
    |false=>rfl
    |true=>exact(hid (Nat.eq_of_beq_eq_true hb)).elim
   rw[this] at hu
   exact Out.exits hu h
 | .code _::k,k',hu,h=>Out.exits (k:=k) hu h
 | .ops _ _::k,k',hu,h=>Out.exits (k:=k) hu h
 | .pred _::k,k',hu,h=>Out.exits (k:=k) hu h
theorem go_exit {id:Nat} {k':List It} (hu:unw id k=some k') (h:(Out P G T own nt ρ C rs R) k' .normal env H):(Out P G T own nt ρ C rs R) (.code (.exit id)::k) .normal env H:=AWP.exit (Out.exits hu h)
theorem go_blk {id:Nat} (h:(Out P G T own nt ρ C rs R) k .normal env H):(Out P G T own nt ρ C rs R) (.blk id::k) .normal env H:=h
theorem go_block {id:Nat} {x:Code} (h:(Out P G T own nt ρ C rs R) (.code x:: .blk id::k) .normal env H):(Out P G T own nt ρ C rs R) (.code (.block id x)::k) .normal env H:=by
 refine AWP.block (AWP.mono h ?_)
 rintro e ⟨env',H'⟩ h'
 cases e with
 |exit id'=>exact h'
 |_=>exact h'
theorem go_pred {K:Env→List Blk→Prop} (h:K env H):(Out P G T own nt ρ C rs R) (.pred K::k) .normal env H:=⟨env,EqE.refl _,h⟩
theorem go_region (hT:TabOK P T) {id:Nat} {ops:Array Oper} {l:List Oper} (hl:ops=⟨l⟩) (h:(Out P G T own nt ρ C rs R) (.ops l l::k) .normal env H):(Out P G T own nt ρ C rs R) (.code (.region id ops false)::k) .normal env H:=by
 subst hl
 intro c a hc hi hg
 refine wpIn_region ?_
 rw[List.range_eq_range']
 exact h hT 0 c a (.inl rfl) hc hi hg
theorem go_nil {all:List Oper} (h:(Out P G T own nt ρ C rs R) k .normal env H):(Out P G T own nt ρ C rs R) (.ops all []::k) .normal env H:=OW.nil h
theorem go_condT {t:Nat} {p q:Code} (h1:look env t=some (.bool true)) (h:(Out P G T own nt ρ C rs R) (.code p::k) .normal env H):(Out P G T own nt ρ C rs R) (.code (.cond (.tmp t) p q)::k) .normal env H:=
 AWP.cond ⟨_,h1,true,rfl,And.intro (fun _=>h) (fun e=>by cases e)⟩
theorem go_condF {t:Nat} {p q:Code} (h1:look env t=some (.bool false)) (h:(Out P G T own nt ρ C rs R) (.code q::k) .normal env H):(Out P G T own nt ρ C rs R) (.code (.cond (.tmp t) p q)::k) .normal env H:=
 AWP.cond ⟨_,h1,false,rfl,And.intro (fun e=>by cases e) (fun _=>h)⟩
theorem go_condB {t:Nat} {p q:Code} {b:Bool} (h1:look env t=some (.bool b)) (h:b=true→(Out P G T own nt ρ C rs R) (.code p::k) .normal ((t,.bool true)::env) H) (h':b=false→(Out P G T own nt ρ C rs R) (.code q::k) .normal ((t,.bool false)::env) H):(Out P G T own nt ρ C rs R) (.code (.cond (.tmp t) p q)::k) .normal env H:=
 AWP.cond ⟨_,h1,b,rfl,And.intro (fun e=>Out.eqE (k:= .code p::k) (EqE.shadow (e ▸ h1)) (h e)) (fun e=>Out.eqE (k:= .code q::k) (EqE.shadow (e ▸ h1)) (h' e))⟩
theorem go_condD {t:Nat} {p q:Code} {a:Prop} {inst:Decidable a} (h1:look env t=some (.bool (decide a))) (h:a→(Out P G T own nt ρ C rs R) (.code p::k) .normal ((t,.bool true)::env) H) (h':¬ a→(Out P G T own nt ρ C rs R) (.code q::k) .normal ((t,.bool false)::env) H):(Out P G T own nt ρ C rs R) (.code (.cond (.tmp t) p q)::k) .normal env H:=
 go_condB h1 (fun e=>h (of_decide_eq_true e)) (fun e=>h' (of_decide_eq_false e))
theorem go_condDT {t:Nat} {p q:Code} {a:Prop} {inst:Decidable a} (h1:look env t=some (.bool (decide a))) (ha:a) (h:(Out P G T own nt ρ C rs R) (.code p::k) .normal ((t,.bool true)::env) H):(Out P G T own nt ρ C rs R) (.code (.cond (.tmp t) p q)::k) .normal env H:=
 go_condD h1 (fun _=>h) (fun e=>(e ha).elim)
theorem go_condDF {t:Nat} {p q:Code} {a:Prop} {inst:Decidable a} (h1:look env t=some (.bool (decide a))) (ha:¬ a) (h:(Out P G T own nt ρ C rs R) (.code q::k) .normal ((t,.bool false)::env) H):(Out P G T own nt ρ C rs R) (.code (.cond (.tmp t) p q)::k) .normal env H:=
 go_condD h1 (fun e=>(ha e).elim) (fun _=>h)
section
variable {all r:List Oper} {ty d j dj:Nat} {op:Op} {pos:String} {after:Array Edge} {v:SV} {want:Bool}
theorem go_q (h:qv G T own env H (some d) ty op=some v) (hd:Nat.blt d nt=true) (hk:(Out P G T own nt ρ C rs R) (.ops all r::k) .normal ((d,v)::env) H):(Out P G T own nt ρ C rs R) (.ops all (⟨some d,op,ty,pos,after,none⟩::r)::k) .normal env H:=
 OW.cons rfl (qv_ok (k:=fun x H'=>putK nt (some d) x env fun env'=>OW P G T nt ρ C all r (fun e s=>Out P G T own nt ρ C rs R k e s.env s.H) env' H') h ⟨by have:=Nat.blt_eq ▸ hd;exact this,hk⟩)
theorem go_q0 (h:qv G T own env H none ty op=some v) (hk:(Out P G T own nt ρ C rs R) (.ops all r::k) .normal env H):(Out P G T own nt ρ C rs R) (.ops all (⟨none,op,ty,pos,after,none⟩::r)::k) .normal env H:=
 OW.cons rfl (qv_ok (k:=fun x H'=>putK nt none x env fun env'=>OW P G T nt ρ C all r (fun e s=>Out P G T own nt ρ C rs R k e s.env s.H) env' H') h hk)
theorem go_l (h:lv G T own env H (some d) ty op=some (v,H')) (hd:Nat.blt d nt=true) (hk:(Out P G T own nt ρ C rs R) (.ops all r::k) .normal ((d,v)::env) H'):(Out P G T own nt ρ C rs R) (.ops all (⟨some d,op,ty,pos,after,none⟩::r)::k) .normal env H:=
 OW.cons rfl (lv_ok (k:=fun x H'=>putK nt (some d) x env fun env'=>OW P G T nt ρ C all r (fun e s=>Out P G T own nt ρ C rs R k e s.env s.H) env' H') h ⟨by have:=Nat.blt_eq ▸ hd;exact this,hk⟩)
theorem go_l0 (h:lv G T own env H none ty op=some (v,H')) (hk:(Out P G T own nt ρ C rs R) (.ops all r::k) .normal env H'):(Out P G T own nt ρ C rs R) (.ops all (⟨none,op,ty,pos,after,none⟩::r)::k) .normal env H:=
 OW.cons rfl (lv_ok (k:=fun x H'=>putK nt none x env fun env'=>OW P G T nt ρ C all r (fun e s=>Out P G T own nt ρ C rs R k e s.env s.H) env' H') h hk)
theorem go_gRun {dst:Option Nat} (h1:(all[j]?).bind (·.dst)=some dj) (h2:look env dj=some (.bool want)) (hk:(Out P G T own nt ρ C rs R) (.ops all (⟨dst,op,ty,pos,after,none⟩::r)::k) .normal env H):(Out P G T own nt ρ C rs R) (.ops all (⟨dst,op,ty,pos,after,some (j,want)⟩::r)::k) .normal env H:=
 OW.gRun rfl h1 h2 hk
theorem go_gSkip {v:SV} {b:Option Bool} (h1:(all[j]?).bind (·.dst)=some dj) (h2:look env dj=some v) (h3:asG v=some b) (hb:(b==some want)=false) (hd:Nat.blt d nt=true) (hk:(Out P G T own nt ρ C rs R) (.ops all r::k) .normal ((d,.undef)::env) H):(Out P G T own nt ρ C rs R) (.ops all (⟨some d,op,ty,pos,after,some (j,want)⟩::r)::k) .normal env H:=
 OW.gSkip rfl h1 h2 h3 hb ⟨by have:=Nat.blt_eq ▸ hd;exact this,hk⟩
theorem go_gSkip0 {v:SV} {b:Option Bool} (h1:(all[j]?).bind (·.dst)=some dj) (h2:look env dj=some v) (h3:asG v=some b) (hb:(b==some want)=false) (hk:(Out P G T own nt ρ C rs R) (.ops all r::k) .normal env H):(Out P G T own nt ρ C rs R) (.ops all (⟨none,op,ty,pos,after,some (j,want)⟩::r)::k) .normal env H:=
 OW.gSkip rfl h1 h2 h3 hb hk
theorem go_gB {o:Oper} {b:Bool} (hg:o.guard=some (j,want)) (h1:(all[j]?).bind (·.dst)=some dj) (h2:look env dj=some (.bool b)) (h:b=true→(Out P G T own nt ρ C rs R) (.ops all (o::r)::k) .normal ((dj,.bool true)::env) H) (h':b=false→(Out P G T own nt ρ C rs R) (.ops all (o::r)::k) .normal ((dj,.bool false)::env) H):(Out P G T own nt ρ C rs R) (.ops all (o::r)::k) .normal env H:=by
 cases b with
 |true=>exact Out.eqE (k:= .ops all (o::r)::k) (EqE.shadow h2) (h rfl)
 |false=>exact Out.eqE (k:= .ops all (o::r)::k) (EqE.shadow h2) (h' rfl)
theorem go_gD {o:Oper} {a:Prop} {inst:Decidable a} (hg:o.guard=some (j,want)) (h1:(all[j]?).bind (·.dst)=some dj) (h2:look env dj=some (.bool (decide a))) (h:a→(Out P G T own nt ρ C rs R) (.ops all (o::r)::k) .normal ((dj,.bool true)::env) H) (h':¬ a→(Out P G T own nt ρ C rs R) (.ops all (o::r)::k) .normal ((dj,.bool false)::env) H):(Out P G T own nt ρ C rs R) (.ops all (o::r)::k) .normal env H:=
 go_gB hg h1 h2 (fun e=>h (of_decide_eq_true e)) (fun e=>h' (of_decide_eq_false e))
theorem go_gM1 {b:Bool} (h1:(all[j]?).bind (·.dst)=some dj) (h2:look env dj=some (.bool b)) (hv:b=want→qv G T own env H (some d) ty op=some v) (hd:Nat.blt d nt=true) (hk:(Out P G T own nt ρ C rs R) (.ops all r::k) .normal ((d,gv b want v)::env) H):(Out P G T own nt ρ C rs R) (.ops all (⟨some d,op,ty,pos,after,some (j,want)⟩::r)::k) .normal env H:=by
 by_cases hw:b=want
 ·subst hw
  rw[gv_self] at hk
  exact go_gRun h1 h2 (go_q (hv rfl) hd hk)
 ·have e:gv b want v= .undef:=by cases b<;>cases want<;>first|rfl|exact(hw rfl).elim
  rw[e] at hk
  exact go_gSkip h1 h2 rfl (by cases b<;>cases want<;>first|rfl|exact(hw rfl).elim) hd hk
theorem go_gM2 {b b1 w1:Bool} (h1:(all[j]?).bind (·.dst)=some dj) (h2:look env dj=some (gv b1 w1 (.bool b))) (hv:b1=w1→b=want→qv G T own env H (some d) ty op=some v) (hd:Nat.blt d nt=true) (hk:(Out P G T own nt ρ C rs R) (.ops all r::k) .normal ((d,gv b1 w1 (gv b want v))::env) H):(Out P G T own nt ρ C rs R) (.ops all (⟨some d,op,ty,pos,after,some (j,want)⟩::r)::k) .normal env H:=by
 by_cases hw:b1=w1
 ·subst hw
  rw[gv_self] at hk h2
  exact go_gM1 h1 h2 (hv rfl) hd hk
 ·have e:∀ x,gv b1 w1 x= .undef:=fun x=>by cases b1<;>cases w1<;>first|rfl|exact(hw rfl).elim
  rw[e] at hk h2
  exact go_gSkip h1 h2 rfl rfl hd hk
theorem go_gM3 {b b1 w1 b2 w2:Bool} (h1:(all[j]?).bind (·.dst)=some dj) (h2:look env dj=some (gv b1 w1 (gv b2 w2 (.bool b)))) (hv:b1=w1→b2=w2→b=want→qv G T own env H (some d) ty op=some v) (hd:Nat.blt d nt=true) (hk:(Out P G T own nt ρ C rs R) (.ops all r::k) .normal ((d,gv b1 w1 (gv b2 w2 (gv b want v)))::env) H):(Out P G T own nt ρ C rs R) (.ops all (⟨some d,op,ty,pos,after,some (j,want)⟩::r)::k) .normal env H:=by
 by_cases hw:b1=w1
 ·subst hw
  rw[gv_self] at hk h2
  exact go_gM2 h1 h2 (hv rfl) hd hk
 ·have e:∀ x,gv b1 w1 x= .undef:=fun x=>by cases b1<;>cases w1<;>first|rfl|exact(hw rfl).elim
  rw[e] at hk h2
  exact go_gSkip h1 h2 rfl rfl hd hk
theorem go_gX {o:Oper} {b1 w1:Bool} {u:SV} (hg:o.guard=some (j,want)) (h1:(all[j]?).bind (·.dst)=some dj) (h2:look env dj=some (gv b1 w1 u)) (h:∀ c,b1=c→(Out P G T own nt ρ C rs R) (.ops all (o::r)::k) .normal env H):(Out P G T own nt ρ C rs R) (.ops all (o::r)::k) .normal env H:=h _ rfl
def slLen (H:List Blk):SV→Option Nat
 | .list _ xs=>some xs.length
 | .sl id g _ n=>match blkOf H id g with
  |some _=>some n
  |none=>none
 |_=>none
theorem exOp_nilq {dst:Option Nat} {x y:Operand} {X:SV} {t yt ty n:Nat} {eq:Bool} {kk:SV→List Blk→Prop} (h1:ev G env x=some X) (h2:ev G env y=some .nil) (h3:kindT T t=2) (h4:slLen H X=some n)
 (l:n=0→kk (.bool eq) H) (r:kk (.bool (!eq)) H):exOp P G T own env H dst ty (.binOp (if eq then .eql else .neq) t x y yt) kk:=by
 refine⟨X,h1,.nil,h2,fun hi=>?_,fun _=>?_⟩
 ·exfalso
  unfold isNilI at hi
  split at hi
  ·simp[ev,constSV,constCell] at h2
  ·cases hi
 unfold slLen at h4
 split at h4
 ·cases h4
  cases eq
  ·exact⟨h3,fun e=>l (by rw[e];rfl),r⟩
  ·exact⟨h3,fun e=>l (by rw[e];rfl),r⟩
 ·split at h4
  ·rename_i q hq
   cases h4
   cases eq
   ·exact⟨q,hq,h3,l,r⟩
   ·exact⟨q,hq,h3,l,r⟩
  ·cases h4
 ·cases h4
theorem go_nilE {x y:Operand} {X:SV} {t yt n:Nat} (h1:ev G env x=some X) (h2:ev G env y=some .nil) (h3:kindT T t=2) (h4:slLen H X=some n) (hd:Nat.blt d nt=true)
 (h:n=0→(Out P G T own nt ρ C rs R) (.ops all r::k) .normal ((d,.bool true)::env) H) (h':True→(Out P G T own nt ρ C rs R) (.ops all r::k) .normal ((d,.bool false)::env) H):(Out P G T own nt ρ C rs R) (.ops all (⟨some d,.binOp .eql t x y yt,ty,pos,after,none⟩::r)::k) .normal env H:=
 OW.cons rfl (exOp_nilq (P:=P) (own:=own) (dst:=some d) (ty:=ty) (yt:=yt) (eq:=true) (kk:=fun x H'=>putK nt (some d) x env fun env'=>OW P G T nt ρ C all r (fun e s=>Out P G T own nt ρ C rs R k e s.env s.H) env' H') h1 h2 h3 h4 (fun e=>⟨by have:=Nat.blt_eq ▸ hd;exact this,h e⟩) ⟨by have:=Nat.blt_eq ▸ hd;exact this,h' trivial⟩)
theorem go_nilN {x y:Operand} {X:SV} {t yt n:Nat} (h1:ev G env x=some X) (h2:ev G env y=some .nil) (h3:kindT T t=2) (h4:slLen H X=some n) (hd:Nat.blt d nt=true)
 (h:n=0→(Out P G T own nt ρ C rs R) (.ops all r::k) .normal ((d,.bool false)::env) H) (h':True→(Out P G T own nt ρ C rs R) (.ops all r::k) .normal ((d,.bool true)::env) H):(Out P G T own nt ρ C rs R) (.ops all (⟨some d,.binOp .neq t x y yt,ty,pos,after,none⟩::r)::k) .normal env H:=
 OW.cons rfl (exOp_nilq (P:=P) (own:=own) (dst:=some d) (ty:=ty) (yt:=yt) (eq:=false) (kk:=fun x H'=>putK nt (some d) x env fun env'=>OW P G T nt ρ C all r (fun e s=>Out P G T own nt ρ C rs R k e s.env s.H) env' H') h1 h2 h3 h4 (fun e=>⟨by have:=Nat.blt_eq ▸ hd;exact this,h e⟩) ⟨by have:=Nat.blt_eq ▸ hd;exact this,h' trivial⟩)
variable {R':SV→List Blk→Prop} {xs:List SV} {f:Operand} {fv:SV} {args:Array Operand} {tys:Array Nat} {g:FuncId}
theorem go_callV (h1:ev G env f=some fv) (h2:evs G env args.toList=some xs) (hd:Nat.blt d nt=true) (hc:ACallV P G fv xs H R') (hk:∀ x H',R' x H'→(Out P G T own nt ρ C rs R) (.ops all r::k) .normal ((d,x)::env) H'):(Out P G T own nt ρ C rs R) (.ops all (⟨some d,.call ⟨.value f,args,tys⟩,ty,pos,after,none⟩::r)::k) .normal env H:=
 OW.cons (own:=own) rfl ⟨fv,h1,xs,h2,hc.mono fun x H' hr=>⟨by have:=Nat.blt_eq ▸ hd;exact this,hk x H' hr⟩⟩
theorem go_call (h2:evs G env args.toList=some xs) (hd:Nat.blt d nt=true) (hc:ACall P G g xs H R') (hk:∀ x H',R' x H'→(Out P G T own nt ρ C rs R) (.ops all r::k) .normal ((d,x)::env) H'):(Out P G T own nt ρ C rs R) (.ops all (⟨some d,.call ⟨.value (.func g),args,tys⟩,ty,pos,after,none⟩::r)::k) .normal env H:=
 go_callV rfl h2 hd (ACallV.of (by simpa using hc)) hk
end
theorem AWP.monoW {c:Code} {Q Q':Exit→St→Prop} {s:St} (h:AWP P G nt ρ C c Q s) (hq:∀ e s',Q e s'→∃ s2,Wk G nt C s' s2∧Q' e s2):AWP P G nt ρ C c Q' s:=by
 intro c' a hc hi hg
 refine wpIn_mono (h c' a hc hi hg) ?_
 rintro e a' w' ⟨s',c2,h1,h2,h3,h4,h5⟩
 obtain⟨s2,h6,h7⟩:=hq e s' h1
 obtain⟨c3,e1,e2,e3,e4⟩:=h6 c2 a' h2 h4 h5
 exact⟨s2,c3,h7,e1,e2.trans h3,e3,e4⟩
theorem go_cut {α:Type} (E:α→Env) (M:α→List Blk) (I:α→Prop) {c:Code} (h1:∀ K,Back (∀ env' H' a,I a→Wk G nt C ⟨env',H'⟩ ⟨E a,M a⟩→K env' H')→(Out P G T own nt ρ C rs R) (.code c:: .pred K::k) .normal env H) (h2:∀ a,I a→(Out P G T own nt ρ C rs R) k .normal (E a) (M a)):(Out P G T own nt ρ C rs R) (.code c::k) .normal env H:=by
 have h:=h1 (fun env' H'=>∃ a,I a∧Wk G nt C ⟨env',H'⟩ ⟨E a,M a⟩) (fun env' H' a h3 h4=>⟨a,h3,h4⟩)
 refine AWP.monoW h ?_
 rintro e ⟨env',H'⟩ h'
 cases e with
 |normal=>
  obtain⟨env2,he,a,h3,h4⟩:=h'
  refine⟨⟨E a,M a⟩,fun c' a' q1 q2 q3=>h4 c' a' q1 ⟨q2.heap,q2.glob,q2.size,fun t x hx=>q2.env t x (by rw[← he t];exact hx),q2.defs⟩ q3,h2 a h3⟩
 |_=>exact⟨_,Wk.refl _,h'⟩
theorem go_loop {α:Type} (E:α→Env) (M:α→List Blk) (μ:α→Nat) (I:α→Prop) (a0:α) {x:Code} (h0:I a0) (hs:Wk G nt C ⟨env,H⟩ ⟨E a0,M a0⟩)
 (round:∀ K a,I a→Back (∀ env' H' a',μ a'<μ a→I a'→Wk G nt C ⟨env',H'⟩ ⟨E a',M a'⟩→K env' H')→(Out P G T own nt ρ C rs R) (.code x:: .pred K::k) .normal (E a) (M a)):(Out P G T own nt ρ C rs R) (.code (.loop x)::k) .normal env H:=by
 refine AWP.loopW (fun m s=>∃ a,I a∧μ a=m∧s=⟨E a,M a⟩) (μ a0) ⟨E a0,M a0⟩ hs ⟨a0,h0,rfl,rfl⟩ ?_
 rintro m s ⟨a,h1,rfl,rfl⟩
 refine AWP.mono (round (fun env' H'=>∃ m s2,m<μ a∧Wk G nt C ⟨env',H'⟩ s2∧∃ a,I a∧μ a=m∧s2=⟨E a,M a⟩) a h1 fun env' H' a' g1 g2 g3=>⟨μ a',⟨E a',M a'⟩,g1,g3,a',g2,rfl,rfl⟩) ?_
 rintro e ⟨env',H'⟩ h'
 cases e with
 |normal=>
  obtain⟨env2,he,m,s2,h3,h4,h5⟩:=h'
  exact⟨m,s2,h3,fun c' a' q1 q2 q3=>h4 c' a' q1 ⟨q2.heap,q2.glob,q2.size,fun t x hx=>q2.env t x (by rw[← he t];exact hx),q2.defs⟩ q3,h5⟩
 |_=>exact h'
theorem Fin.out {x:SV} {R0:SV→List Blk→Prop} (hR:Back (∀ y H',R0 y H'→R y H')) (h:R0 x H):Fin C H x R:=Fin.same (hR _ _ h)
theorem Fin.mono {x:SV} {R':SV→List Blk→Prop} (h:Fin C H x R') (hr:∀ y H',R' y H'→R y H'):Fin C H x R:=fun c v h1 h2 h3 h4=>
 let ⟨c',y,e1,e2,e3⟩:=h c v h1 h2 h3 h4
 ⟨c',y,e1,hr _ _ e2,e3⟩
theorem RetK_of {e:Exit} {env:Env} {H:List Blk} (h:(Out P G T own nt ρ C rs R) [] e env H):RetK C T rs R e env H:=by
 cases e with
 |normal=>exact h
 |ret=>exact h
 |_=>exact h.elim
theorem ACall.of_go (T:Tab) (own:List Nat) (hT:TabOK P T) {f:FuncId} {fn:Func} {cd:Code} {args:List SV} {R:SV→List Blk→Prop} {rs:List ResultVar} (nt:Nat) (hf:P.funcs[f]? =some fn) (hb:fn.body=some cd) (hname:(fn.name== "runtime.NumGoroutine")=false)
 (hnt:fn.ntmps=nt) (hlen:args.length≤nt) (hrs:fn.results=⟨rs⟩) {ie:Env} (hie:initEnv args 0=ie)
 (h:∀ (C:Cx) (R':SV→List Blk→Prop),Back (∀ x H',R x H'→R' x H')→C.H=H→closed H→Based G C.H.length→Out P G T own nt none C rs R' [.code cd] .normal ie H):ACall P G f args H R:=
 ACall.of_awp hT hf hb hname hnt hlen (by rw[hrs]) fun C h1 h2 h3=>hie ▸ AWP.mono (h C R (fun _ _ h=>h) h1 h2 h3) fun e s h=>RetK_of h
end
theorem decide_not' {p:Prop} [Decidable p]:(!decide p)=decide (¬ p):=by simp
end
end Go.Proofs.YtedejleokilohaaGreatDoor
