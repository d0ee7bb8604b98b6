/- A part of the proof: SwD, SwE, SwF, SwG. Names and spaces are cut short by program. -/
import Derived.Test.YtedejleokilohaaGreatDoorMc
import Derived.OrdersIn
import Derived.RangeFuncIn
set_option linter.unusedSimpArgs false
set_option linter.unusedVariables false
set_option maxRecDepth 10000
set_option maxHeartbeats 4000000
namespace Go.Proofs.YtedejleokilohaaGreatDoor
open Go
section
def memN (i:Nat):List Nat→Bool
 |[]=>false
 |j::r=>Nat.beq i j||memN i r
theorem memN_iff {i:Nat}:∀ {l:List Nat},memN i l=true↔i∈l
 |[]=>by simp[memN]
 |j::r=>by
  simp only[memN,Bool.or_eq_true,List.mem_cons,memN_iff (l:=r),Nat.beq_eq]
def insN (i:Nat) (l:List Nat):List Nat:=bif memN i l then l else i::l
theorem mem_insN {i j:Nat} {l:List Nat}:j∈insN i l→j=i∨j∈l:=by
 unfold insN
 cases h:memN i l
 ·simp
 ·exact fun h=> .inr h
def uniN:List Nat→List Nat→List Nat
 |[],m=>m
 |i::r,m=>insN i (uniN r m)
theorem mem_uniN {j:Nat}:∀ {l m:List Nat},j∈uniN l m→j∈l∨j∈m
 |[],m,h=> .inr h
 |i::r,m,h=>by
  rcases mem_insN h with rfl|h
  ·exact .inl (List.mem_cons_self ..)
  ·rcases mem_uniN h with h|h
   ·exact .inl (List.mem_cons_of_mem _ h)
   ·exact .inr h
def depsOf (o:Oper):List Nat:=(o.after.toList.filter fun e=>Region.binds .any e).map (·.on)
def getL (l:List (List Nat)) (i:Nat):List Nat:=(l[i]?).getD []
def cloOne (tb:List (List Nat)):List Nat→List Nat
 |[]=>[]
 |i::r=>insN i (uniN (getL tb i) (cloOne tb r))
def cloAll (tb:List (List Nat)):List Oper→List (List Nat)
 |[]=>tb
 |o::r=>cloAll (tb++[cloOne tb (depsOf o)]) r
def clo (ops:List Oper):List (List Nat):=cloAll [] ops
def tmpsOf (all:List Oper) (o:Oper):List Nat:=
 (opds o.op).filterMap (fun x=>match x with
  | .tmp t=>some t
  |_=>none)++(match o.guard with
  |some (j,_)=>((all[j]?).bind (·.dst)).toList
  |none=>[])
def isQ (own:List Nat) (o:Oper):Bool:=
 o.dst.isSome&&match o.op with
 | .move _| .pick .. | .build .. | .load .. | .nilCheck _| .binOp .. | .unOp .. | .convert .. | .makeFunc .. | .slice _ _ _ _ none| .fieldAddr .. | .field .. | .indexAddr .. | .index .. | .lookup .. | .extract .. =>true
 | .assign _=>!isIn o.dst own
 | .buildSlice _ len _=>!(len==0||isIn o.dst own)
 | .call ⟨.builtin .len,_,_⟩| .call ⟨.builtin .min,_,_⟩| .call ⟨.builtin .max,_,_⟩=>true
 |_=>false
def readsH (o:Oper):Bool:=match o.op with
 | .move _| .assign _| .pick .. | .build .. | .unOp .. | .makeFunc .. | .field .. | .extract .. | .index .. | .buildSlice .. =>false
 | .call ⟨.builtin .min,_,_⟩| .call ⟨.builtin .max,_,_⟩=>false
 | .binOp _ _ _ y _=>isNilC y
 |_=>true
def wrOf (t:Nat):Nat→List Oper→Option Nat
 |_,[]=>none
 |i,o::r=>bif (match o.dst with
  |some d=>Nat.beq d t
  |none=>false) then some i else wrOf t (i+1) r
def dstsOK (nt:Nat):Nat→List Oper→List Oper→Bool
 |_,[],_=>true
 |i,o::r,all=>(match o.dst with
  |some d=>Nat.blt d nt&&(match wrOf d 0 all with
   |some j=>Nat.beq i j
   |none=>false)
  |none=>true)&&(depsOf o).all (fun j=>Nat.blt j i)&&dstsOK nt (i+1) r all
def readsOK (tb:List (List Nat)) (all:List Oper):Nat→List Oper→Bool
 |_,[]=>true
 |i,o::r=>(tmpsOf all o).all (fun t=>match wrOf t 0 all with
  |none=>true
  |some j=>memN j (getL tb i)||(!readsH o&&(Nat.beq i j||memN i (getL tb j))))&&readsOK tb all (i+1) r
def drawOK (nt:Nat) (ops:List Oper):Bool:=dstsOK nt 0 ops ops&&readsOK (clo ops) ops 0 ops
section
variable (P:Program) (G:Gl) (T:Tab) (own:List Nat) (nt:Nat)
def qg (all:List Oper) (o:Oper) (env:Env) (H:List Blk):Option SV:=
 match o.guard with
 |none=>qv G T own env H o.dst o.type o.op
 |some (j,want)=>ob ((all[j]?).bind (·.dst)) fun dj=>ob (look env dj) fun v=>ob (asG v) fun b=>bb (b==some want) (qv G T own env H o.dst o.type o.op) (some .undef)
def exG (all:List Oper) (o:Oper) (env:Env) (H:List Blk) (k:SV→List Blk→Prop):Prop:=
 match o.guard with
 |none=>exOp P G T own env H o.dst o.type o.op k
 |some (j,want)=>bindO ((all[j]?).bind (·.dst)) fun dj=>bindO (look env dj) fun v=>bindO (asG v) fun b=>Br (b==some want) (exOp P G T own env H o.dst o.type o.op k) (k .undef H)
def putE (d:Option Nat) (x:SV) (env:Env):Env:=match d with
 |some d=>(d,x)::env
 |none=>env
def again (all:List Oper) (j:Nat) (env:Env) (H:List Blk):List Nat→Prop
 |[]=>True
 |i::r=>(match all[i]? with
  |some o=>(isQ own o&&readsH o&&!memN i (getL (clo all) j))=true→qg G T own all o env H=(o.dst).bind (look env)
  |none=>True)∧again all j env H r
def Dr (all:List Oper):Nat→List Nat→Env→List Blk→(Env→List Blk→Prop)→Prop
 |0,_,_,_,_=>False
 |n+1,L,env,H,K=>
  (∃ i o v,all[i]? =some o∧i∉L∧isQ own o=true∧(∀ j∈depsOf o,j∈L)∧qg G T own all o env H=some v∧Dr all n (i::L) (putE o.dst v env) H K)∨
  ((∀ i o,all[i]? =some o→i∉L→(∀ j∈depsOf o,j∈L)→isQ own o=false)∧
   (((∀ i o,all[i]? =some o→i∈L)∧K env H)∨((∃ i o,all[i]? =some o∧i∉L)∧
    ∀ j o,all[j]? =some o→j∉L→(∀ k∈depsOf o,k∈L)→exG P G T own all o env H fun x H'=>again G T own all j (putE o.dst x env) H' L∧Dr all n (j::L) (putE o.dst x env) H' K)))
def Qs (all:List Oper) (n:Nat) (L:List Nat) (env:Env) (H:List Blk) (K:Env→List Blk→Prop):Prop:=
 (∀ i o,all[i]? =some o→i∉L→(∀ j∈depsOf o,j∈L)→isQ own o=false)∧
  (((∀ i o,all[i]? =some o→i∈L)∧K env H)∨((∃ i o,all[i]? =some o∧i∉L)∧
   ∀ j o,all[j]? =some o→j∉L→(∀ k∈depsOf o,k∈L)→exG P G T own all o env H fun x H'=>again G T own all j (putE o.dst x env) H' L∧Dr P G T own all n (j::L) (putE o.dst x env) H' K))
end
section
variable {P:Program} {G:Gl} {T:Tab} {own:List Nat} {nt B:Nat} {ρ:Option Nat} {C c:Cx} {env env2 E:Env} {H H':List Blk} {a:Act}
theorem wrOf_some {t:Nat}:∀ {l:List Oper} {i m:Nat},wrOf t i l=some m→∃ k o,m=i+k∧l[k]? =some o∧o.dst=some t
 |[],i,m,h=>by cases h
 |o'::r,i,m,h=>by
  simp only[wrOf] at h
  cases hd:o'.dst with
  |none=>
   rw[hd] at h
   obtain⟨k,o,h1,h2,h3⟩:=wrOf_some (l:=r) (i:=i+1) h
   exact⟨k+1,o,by omega,by simpa using h2,h3⟩
  |some d=>
   rw[hd] at h
   cases hb:Nat.beq d t with
   |true=>simp only[hb,cond_true] at h;cases h;exact⟨0,o',rfl,rfl,by rw[hd,Nat.eq_of_beq_eq_true hb]⟩
   |false=>
    simp only[hb,cond_false] at h
    obtain⟨k,o,h1,h2,h3⟩:=wrOf_some (l:=r) (i:=i+1) h
    exact⟨k+1,o,by omega,by simpa using h2,h3⟩
theorem dstsOK_get {all:List Oper}:∀ {l:List Oper} {i:Nat},dstsOK nt i l all=true→∀ k o,l[k]? =some o→(∀ d,o.dst=some d→d<nt∧wrOf d 0 all=some (i+k))∧∀ j∈depsOf o,j<i+k
 |[],i,_,k,o,ho=>by simp at ho
 |o'::r,i,h,k,o,ho=>by
  simp only[dstsOK,Bool.and_eq_true] at h
  cases k with
  |zero=>
   simp at ho
   subst ho
   refine⟨fun d hd=>?_,fun j hj=>?_⟩
   ·have h1:=h.1.1
    rw[hd] at h1
    simp only[Bool.and_eq_true] at h1
    refine⟨by have:=h1.1;rw[Nat.blt_eq] at this;exact this,?_⟩
    have h2:=h1.2
    split at h2
    ·rename_i j hj
     rw[hj,← Nat.eq_of_beq_eq_true h2];rfl
    ·cases h2
   ·have:=List.all_eq_true.1 h.1.2 j hj
    rw[Nat.blt_eq] at this;exact this
  |succ k=>
   have:=dstsOK_get h.2 k o (by simpa using ho)
   rw[show i+1+k=i+(k+1) by omega] at this
   exact this
theorem readsOK_get {tb:List (List Nat)} {all:List Oper}:∀ {l:List Oper} {i:Nat},readsOK tb all i l=true→∀ k o,l[k]? =some o→∀ t∈tmpsOf all o,∀ j,wrOf t 0 all=some j→
 j∈getL tb (i+k)∨(readsH o=false∧(i+k=j∨i+k∈getL tb j))
 |[],i,_,k,o,ho=>by simp at ho
 |o'::r,i,h,k,o,ho=>by
  simp only[readsOK,Bool.and_eq_true] at h
  cases k with
  |zero=>
   simp at ho
   subst ho
   intro t ht j hj
   have h1:=List.all_eq_true.1 h.1 t ht
   rw[hj] at h1
   simp only[Bool.or_eq_true,Bool.and_eq_true,Bool.not_eq_true',memN_iff] at h1
   rcases h1 with h1|⟨h1,h2⟩
   ·exact .inl h1
   ·refine .inr ⟨h1,?_⟩
    rcases h2 with h2|h2
    ·exact .inl (Nat.eq_of_beq_eq_true h2)
    ·exact .inr h2
  |succ k=>
   have:=readsOK_get h.2 k o (by simpa using ho)
   rw[show i+1+k=i+(k+1) by omega] at this
   exact this
def Closed (ops:List Oper) (S:Nat→Prop):Prop:=∀ i o,ops[i]? =some o→S i→∀ j∈depsOf o,S j
theorem cloOne_sub {tb:List (List Nat)} {S:Nat→Prop} (ht:∀ i,S i→∀ j∈getL tb i,S j):∀ {l:List Nat},(∀ i∈l,S i)→∀ j∈cloOne tb l,S j
 |[],_,j,hj=>by cases hj
 |i::r,hl,j,hj=>by
  rcases mem_insN hj with rfl|hj
  ·exact hl _ (List.mem_cons_self ..)
  ·rcases mem_uniN hj with hj|hj
   ·exact ht i (hl i (List.mem_cons_self ..)) j hj
   ·exact cloOne_sub ht (fun k hk=>hl k (List.mem_cons_of_mem _ hk)) j hj
theorem getL_app {tb:List (List Nat)} {x:List Nat} (i:Nat):getL (tb++[x]) i=if i<tb.length then getL tb i else if i=tb.length then x else []:=by
 unfold getL
 rw[List.getElem?_append]
 split
 ·rfl
 ·rename_i h
  split
  ·rename_i h2;rw[h2,Nat.sub_self];rfl
  ·rw[List.getElem?_eq_none (by simp;omega)];rfl
theorem cloAll_sub {all:List Oper} {S:Nat→Prop} (hS:Closed all S):∀ (rest done:List Oper) (tb:List (List Nat)),all=done++rest→tb.length=done.length→
 (∀ i o,all[i]? =some o→(∀ k∈depsOf o,S k)→∀ j∈getL tb i,S j)→∀ i o,all[i]? =some o→(∀ k∈depsOf o,S k)→∀ j∈getL (cloAll tb rest) i,S j
 |[],done,tb,_,_,h=>h
 |o::r,done,tb,ha,hl,h=>by
  refine cloAll_sub hS r (done++[o]) (tb++[cloOne tb (depsOf o)]) (by rw[ha];simp) (by simp[hl]) ?_
  intro i oi hi hd j hj
  rw[getL_app] at hj
  split at hj
  ·exact h i oi hi hd j hj
  ·split at hj
   ·rename_i h2
    have:oi=o:=by
     rw[h2,hl,ha,List.getElem?_append_right (Nat.le_refl _),Nat.sub_self] at hi
     simpa using hi.symm
    subst this
    refine cloOne_sub (S:=S) (fun k hk q hq=>?_) hd j hj
    have hlt:k<tb.length:=by
     rcases Nat.lt_or_ge k tb.length with h3|h3
     ·exact h3
     ·unfold getL at hq;rw[List.getElem?_eq_none (by omega)] at hq;cases hq
    have hk2:k<all.length:=by rw[ha];simp;omega
    exact h k _ (List.getElem?_eq_getElem hk2) (hS k _ (List.getElem?_eq_getElem hk2) hk) q hq
   ·cases hj
theorem clo_sub {all:List Oper} {S:Nat→Prop} (hS:Closed all S) {i:Nat} {o:Oper} (ho:all[i]? =some o) (hd:∀ k∈depsOf o,S k):∀ j∈getL (clo all) i,S j:=
 cloAll_sub hS all [] [] rfl rfl (fun i o _ _ j hj=>by simp[getL] at hj) i o ho hd
def Agree (all:List Oper) (o:Oper) (env env2:Env):Prop:=∀ t∈tmpsOf all o,look env t=look env2 t
theorem Agree.ev {all:List Oper} {o:Oper} (h:Agree all o env env2):∀ x∈opds o.op,ev G env x=ev G env2 x:=fun x hx=>by
 cases x with
 |tmp t=>exact h t (by unfold tmpsOf;rw[List.mem_append,List.mem_filterMap];exact .inl ⟨_,hx,rfl⟩)
 |_=>rfl
theorem qg_congr {all:List Oper} {o:Oper} (h:Agree all o env env2):qg G T own all o env H=qg G T own all o env2 H:=by
 unfold qg
 rw[qv_congrO (T:=T) (own:=own) (dst:=o.dst) (ty:=o.type) (H:=H) (h.ev (G:=G))]
 cases hg:o.guard with
 |none=>rfl
 |some p=>
  obtain⟨j,w⟩:=p
  simp only
  cases hd:(all[j]?).bind (·.dst) with
  |none=>rfl
  |some dj=>
   have:look env dj=look env2 dj:=h dj (by unfold tmpsOf;rw[List.mem_append,hg];right;simp only[hd];simp)
   simp only[ob_some,this]
theorem exG_congr {all:List Oper} {o:Oper} (h:Agree all o env env2) {k:SV→List Blk→Prop} (hk:exG P G T own all o env H k):exG P G T own all o env2 H k:=by
 unfold exG at hk ⊢
 rw[← exOp_congrO (P:=P) (T:=T) (own:=own) (dst:=o.dst) (ty:=o.type) (H:=H) (k:=k) (h.ev (G:=G))]
 cases hg:o.guard with
 |none=>rw[hg] at hk;exact hk
 |some p=>
  obtain⟨j,w⟩:=p
  rw[hg] at hk
  obtain⟨dj,h1,h2⟩:=hk
  have:look env dj=look env2 dj:=h dj (by unfold tmpsOf;rw[List.mem_append,hg];right;simp only[h1];simp)
  rw[this] at h2
  exact⟨dj,h1,h2⟩
theorem qg_exG {all:List Oper} {o:Oper} {v:SV} {k:SV→List Blk→Prop} (h:qg G T own all o env H=some v) (hk:k v H):exG P G T own all o env H k:=by
 unfold qg at h
 unfold exG
 cases hg:o.guard with
 |none=>rw[hg] at h;exact qv_ok h hk
 |some p=>
  obtain⟨j,w⟩:=p
  rw[hg] at h
  obtain⟨dj,h1,h2⟩:=ob_eq h
  obtain⟨u,h3,h4⟩:=ob_eq h2
  obtain⟨b,h5,h6⟩:=ob_eq h4
  refine⟨dj,h1,u,h3,b,h5,And.intro (fun e=>?_) (fun e=>?_)⟩
  ·rw[e] at h6;exact qv_ok h6 hk
  ·rw[e] at h6;cases h6;exact hk
theorem exG_mono {all:List Oper} {o:Oper} {k k':SV→List Blk→Prop} (hk:∀ x H',k x H'→k' x H') (h:exG P G T own all o env H k):exG P G T own all o env H k':=by
 unfold exG at h ⊢
 cases hg:o.guard with
 |none=>rw[hg] at h;exact exOp_mono hk h
 |some p=>
  obtain⟨j,w⟩:=p
  rw[hg] at h
  obtain⟨dj,h1,u,h3,b,h5,h6,h7⟩:=h
  exact⟨dj,h1,u,h3,b,h5,And.intro (fun e=>exOp_mono hk (h6 e)) (fun e=>hk _ _ (h7 e))⟩
theorem qv_noread {o:Oper} (hr:readsH o=false):qv G T own env H o.dst o.type o.op=qv G T own env H' o.dst o.type o.op:=by
 unfold readsH at hr
 split at hr<;>first
  |(cases hr;done)
  |(rename_i he;rw[he];rfl)
  |(rename_i he;rw[he];simp only[qv,nilH,hr];done)
  |(rename_i al tl he;rw[he];obtain⟨al⟩:=al;rcases al with _|⟨x,_|⟨y,_|⟨z,r⟩⟩⟩<;>rfl)
theorem qg_noread {all:List Oper} {o:Oper} (hr:readsH o=false):qg G T own all o env H=qg G T own all o env H':=by
 unfold qg
 rw[qv_noread (H:=H) (H':=H') hr]
theorem op_any (hT:TabOK P T) (hi:Inv G nt B c env a) {ops:Array Oper} {i:Nat} {o:Oper} {k:SV→List Blk→Prop} {K:Act→World→Prop} {Q:Exit→Act→World→Prop} (ho:ops[i]? =some o) (hd:∀ d,o.dst=some d→d<nt)
 (h:exG P G T own ops.toList o env c.H k) (hk:∀ x c' a',k x c'.H→Inv G nt B c' (putE o.dst x env) a'→Grow c c'→K a' c'.w):wpOpIn (FR ρ) 0 P ops Q i K a c.w:=by
 unfold wpOpIn
 rw[ho]
 simp only
 have run:exOp P G T own env c.H o.dst o.type o.op k→o.wpIn (FR ρ) 0 P a c.w K Q:=fun hx=>by
  refine exOp_wp hT hi hx fun x c' u e1 e2 e3 e4=>?_
  cases hdd:o.dst with
  |none=>exact hk x c' _ e1 (by rw[hdd];exact hi.put_none e4 e2) e4
  |some d=>exact hk x c' _ e1 (by rw[hdd];exact hi.put e4 e2 e3 (hd d hdd)) e4
 unfold exG at h
 cases hg:o.guard with
 |none=>
  rw[hg] at h
  simp only[Region.wanted,hg,if_true]
  exact run h
 |some p=>
  obtain⟨j,want⟩:=p
  rw[hg] at h
  obtain⟨d,h1,v,h2,g,h3,h4⟩:=h
  have hy:=yielded_ok hi h1 h2 h3
  simp only[Region.wanted,hg,hy]
  cases hgw:(g==some want) with
  |true=>
   rw[if_pos rfl]
   exact run (h4.1 hgw)
  |false=>
   rw[if_neg (by simp)]
   refine⟨fun _ _=>trivial,?_⟩
   have e1:=h4.2 hgw
   cases hdd:o.dst with
   |none=>exact hk .undef c _ e1 (by rw[hdd];exact hi.put_none (Grow.refl c) hi.heap) (Grow.refl c)
   |some d=>exact hk .undef c _ e1 (by rw[hdd];exact hi.put (Grow.refl c) hi.heap Rep.undef (hd d hdd)) (Grow.refl c)
def lk (all:List Oper) (S:Nat→Prop) [DecidablePred S] (V:Nat→SV) (pre:Env) (t:Nat):Option SV:=
 match wrOf t 0 all with
 |some j=>if S j then some (V j) else look pre t
 |none=>look pre t
structure Draw (G:Gl) (T:Tab) (own:List Nat) (all:List Oper) (pre:Env) (R:Nat→Prop) [DecidablePred R] (L:List Nat) (V:Nat→SV) (env:Env) (H:List Blk):Prop where
 env:∀ t,look env t=lk all (· ∈L) V pre t
 sub:∀ j,R j→j∈L
 bound:∀ j∈L,j<all.length
 quiet:∀ j o,all[j]? =some o→j∈L→¬ R j→isQ own o=true
 closed:Closed all (· ∈L)
 closedR:Closed all R
 val:∀ i o,all[i]? =some o→i∈L→¬ R i→∀ E,(∀ t∈tmpsOf all o,look E t=lk all (· ∈getL (clo all) i) V pre t)→qg G T own all o E H=some (V i)
section
variable {all:List Oper} {pre:Env} {R:Nat→Prop} [DecidablePred R] {L:List Nat} {V:Nat→SV}
theorem lk_see (hok:drawOK nt all=true) {S:Nat→Prop} [DecidablePred S] (hS:Closed all S) {i:Nat} {o:Oper} (ho:all[i]? =some o) (hn:¬ S i) (hd:∀ j∈depsOf o,S j):
 ∀ t∈tmpsOf all o,lk all S V pre t=lk all (· ∈getL (clo all) i) V pre t:=by
 intro t ht
 unfold drawOK at hok
 simp only[Bool.and_eq_true] at hok
 have hsub:=clo_sub hS ho hd
 unfold lk
 cases hw:wrOf t 0 all with
 |none=>rfl
 |some j=>
  simp only
  have h1:=readsOK_get hok.2 i o ho t ht j hw
  rw[Nat.zero_add] at h1
  by_cases hj:j∈getL (clo all) i
  ·rw[if_pos hj,if_pos (hsub j hj)]
  ·rw[if_neg hj,if_neg]
   intro hSj
   rcases h1 with h1|⟨_,h1|h1⟩
   ·exact hj h1
   ·exact hn (h1 ▸ hSj)
   ·obtain⟨k,oj,e1,e2,e3⟩:=wrOf_some hw
    rw[Nat.zero_add] at e1
    subst e1
    exact hn (clo_sub hS e2 (hS _ _ e2 hSj) i h1)
theorem lk_put (hok:drawOK nt all=true) {S:Nat→Prop} [DecidablePred S] {S':Nat→Prop} [DecidablePred S'] {i:Nat} {o:Oper} (ho:all[i]? =some o) (hS:∀ j,S' j↔(j=i∨S j)) {v:SV} {V':Nat→SV} (hV:∀ j,S j→j≠i→V' j=V j) (hVi:V' i=v)
 {env:Env} (he:∀ t,look env t=lk all S V pre t):∀ t,look (putE o.dst v env) t=lk all S' V' pre t:=by
 intro t
 unfold drawOK at hok
 simp only[Bool.and_eq_true] at hok
 have hdd:=(dstsOK_get hok.1 i o ho).1
 rw[Nat.zero_add] at hdd
 have other:(∀ d,o.dst=some d→t≠d)→look env t=lk all S' V' pre t:=fun hne=>by
  rw[he t]
  unfold lk
  cases hw:wrOf t 0 all with
  |none=>rfl
  |some j=>
   simp only
   have hji:j≠i:=fun e=>by
    obtain⟨k,oj,e1,e2,e3⟩:=wrOf_some hw
    rw[Nat.zero_add] at e1
    rw[← e1,e,ho] at e2
    cases e2
    exact hne t e3 rfl
   by_cases hj:S j
   ·rw[if_pos hj,if_pos ((hS j).2 (.inr hj)),hV j hj hji]
   ·rw[if_neg hj,if_neg (fun h=>by rcases (hS j).1 h with h|h;exact hji h;exact hj h)]
 cases hd:o.dst with
 |none=>exact other (fun d h=>by rw[hd] at h;cases h)
 |some d=>
  simp only[putE,look]
  by_cases htd:t=d
  ·subst htd
   rw[if_pos rfl]
   unfold lk
   rw[(hdd t hd).2]
   simp only
   rw[if_pos ((hS i).2 (.inl rfl)),hVi]
  ·rw[if_neg htd]
   exact other (fun d' h=>by rw[hd] at h;cases h;exact htd)
theorem Draw.quietStep (hok:drawOK nt all=true) (D:Draw G T own all pre R L V env H) {i:Nat} {o:Oper} {v:SV} (ho:all[i]? =some o) (hn:i∉L) (hq:isQ own o=true) (hd:∀ j∈depsOf o,j∈L) (hv:qg G T own all o env H=some v):
 ∃ V',(∀ j∈L,V' j=V j)∧Draw G T own all pre R (i::L) V' (putE o.dst v env) H:=by
 have hcl:∀ k ok,all[k]? =some ok→k∈L→i∉getL (clo all) k:=fun k ok hk hkL hi=>hn (clo_sub D.closed hk (D.closed k ok hk hkL) i hi)
 have hcl2:i∉getL (clo all) i:=fun hi=>hn (clo_sub D.closed ho hd i hi)
 have lkV:∀ (S:List Nat) t,i∉S→lk all (· ∈S) (fun j=>if j=i then v else V j) pre t=lk all (· ∈S) V pre t:=fun S t hS=>by
  unfold lk
  cases wrOf t 0 all with
  |none=>rfl
  |some j=>
   simp only
   by_cases hj:j∈S
   ·rw[if_pos hj,if_pos hj,if_neg (fun(e:j=i)=>hS (e ▸ hj))]
   ·rw[if_neg hj,if_neg hj]
 refine⟨fun j=>if j=i then v else V j,fun j hj=>if_neg fun(e:j=i)=>hn (e ▸ hj),⟨?_,fun j hj=>List.mem_cons_of_mem _ (D.sub j hj),?_,?_,?_,D.closedR,?_⟩⟩
 ·exact lk_put hok ho (S:=(· ∈L)) (by simp) (fun j _ hj=>if_neg hj) (if_pos rfl) D.env
 ·intro j hj
  rcases List.mem_cons.1 hj with rfl|hj
  ·exact(List.getElem?_eq_some_iff.1 ho).1
  ·exact D.bound j hj
 ·intro j oj hoj hj hR
  rcases List.mem_cons.1 hj with rfl|hj
  ·rw[ho] at hoj;cases hoj;exact hq
  ·exact D.quiet j oj hoj hj hR
 ·intro j oj hoj hj k hk
  rcases List.mem_cons.1 hj with rfl|hj
  ·rw[ho] at hoj;cases hoj;exact List.mem_cons_of_mem _ (hd k hk)
  ·exact List.mem_cons_of_mem _ (D.closed j oj hoj hj k hk)
 ·intro j oj hoj hj hR E hE
  rcases List.mem_cons.1 hj with rfl|hj
  ·rw[ho] at hoj;cases hoj
   rw[if_pos rfl,← hv]
   refine qg_congr fun t ht=>?_
   rw[hE t ht,lkV _ t hcl2,D.env t]
   exact(lk_see hok D.closed ho hn hd t ht).symm
  ·have hji:j≠i:=fun e=>hn (e ▸ hj)
   simp only[if_neg hji]
   refine D.val j oj hoj hj hR E fun t ht=>?_
   rw[hE t ht,lkV _ t (hcl j oj hoj hj)]
theorem Draw.rest (hok:drawOK nt all=true) {K:Env→List Blk→Prop}:∀ (n:Nat) {L:List Nat} {V:Nat→SV} {env:Env},Draw G T own all pre R L V env H→Dr P G T own all n L env H K→
 ∃ n' L' V' env',Draw G T own all pre R L' V' env' H∧Qs P G T own all n' L' env' H K∧∀ j∈L,j∈L'∧V' j=V j
 |0,L,V,env,D,h=>h.elim
 |n+1,L,V,env,D,h=>by
  rcases h with⟨i,o,v,h1,e3,e4,e5,h2,h3⟩|h
  ·obtain⟨V',hV',D'⟩:=D.quietStep hok h1 e3 e4 e5 h2
   obtain⟨n',L',V2,env2,g1,g2,g4⟩:=Draw.rest hok n D' h3
   exact⟨n',L',V2,env2,g1,g2,fun j hj=>⟨(g4 j (List.mem_cons_of_mem _ hj)).1,(g4 j (List.mem_cons_of_mem _ hj)).2.trans (hV' j hj)⟩⟩
  ·exact⟨n,L,V,env,D,h,fun _ h=>⟨h,rfl⟩⟩
theorem again_get {j:Nat} {env:Env} {H:List Blk}:∀ {L:List Nat},again G T own all j env H L→∀ i o,i∈L→all[i]? =some o→isQ own o=true→readsH o=true→i∉getL (clo all) j→qg G T own all o env H=(o.dst).bind (look env)
 |[],_,i,o,hi,_,_,_,_=>by cases hi
 |k::r,h,i,o,hi,ho,h1,h2,h3=>by
  obtain⟨h4,h5⟩:=h
  rcases List.mem_cons.1 hi with rfl|hi
  ·rw[ho] at h4
   refine h4 ?_
   have:memN i (getL (clo all) j)=false:=by
    cases hh:memN i (getL (clo all) j) with
    |false=>rfl
    |true=>exact absurd (memN_iff.1 hh) h3
   rw[h1,h2,this];rfl
  ·exact again_get h5 i o hi ho h1 h2 h3
theorem lk_reads (hok:drawOK nt all=true) {S:Nat→Prop} [DecidablePred S] {i:Nat} {o:Oper} (ho:all[i]? =some o) (hr:readsH o=true) (hsub:∀ j∈getL (clo all) i,S j):∀ t∈tmpsOf all o,lk all S V pre t=lk all (· ∈getL (clo all) i) V pre t:=by
 intro t ht
 unfold drawOK at hok
 simp only[Bool.and_eq_true] at hok
 unfold lk
 cases hw:wrOf t 0 all with
 |none=>rfl
 |some j=>
  simp only
  have h1:=readsOK_get hok.2 i o ho t ht j hw
  rw[Nat.zero_add] at h1
  rcases h1 with h1|⟨h1,_⟩
  ·rw[if_pos h1,if_pos (hsub j h1)]
  ·rw[hr] at h1;cases h1
theorem Draw.loudStep (hok:drawOK nt all=true) (D:Draw G T own all pre R L V env H) {R':Nat→Prop} [DecidablePred R'] {i:Nat} {o:Oper} {x:SV} (ho:all[i]? =some o) (hn:i∉L) (hd:∀ j∈depsOf o,R j) (hR':∀ j,R' j↔(j=i∨R j))
 (hag:again G T own all i (putE o.dst x env) H' L):∃ V',(∀ j,j≠i→V' j=V j)∧V' i=x∧Draw G T own all pre R' (i::L) V' (putE o.dst x env) H':=by
 have hdL:∀ j∈depsOf o,j∈L:=fun j hj=>D.sub j (hd j hj)
 have hcl:∀ k ok,all[k]? =some ok→k∈L→i∉getL (clo all) k:=fun k ok hk hkL hi=>hn (clo_sub D.closed hk (D.closed k ok hk hkL) i hi)
 have lkV:∀ (S:List Nat) t,i∉S→lk all (· ∈S) (fun j=>if j=i then x else V j) pre t=lk all (· ∈S) V pre t:=fun S t hS=>by
  unfold lk
  cases wrOf t 0 all with
  |none=>rfl
  |some j=>
   simp only
   by_cases hj:j∈S
   ·rw[if_pos hj,if_pos hj,if_neg (fun(e:j=i)=>hS (e ▸ hj))]
   ·rw[if_neg hj,if_neg hj]
 have henv:∀ t,look (putE o.dst x env) t=lk all (· ∈i::L) (fun j=>if j=i then x else V j) pre t:=lk_put hok ho (S:=(· ∈L)) (by simp) (fun j _ hj=>if_neg hj) (if_pos rfl) D.env
 refine⟨fun j=>if j=i then x else V j,fun j hj=>if_neg hj,if_pos rfl,⟨henv,?_,?_,?_,?_,?_,?_⟩⟩
 ·intro j hj
  rcases (hR' j).1 hj with rfl|hj
  ·exact List.mem_cons_self ..
  ·exact List.mem_cons_of_mem _ (D.sub j hj)
 ·intro j hj
  rcases List.mem_cons.1 hj with rfl|hj
  ·exact(List.getElem?_eq_some_iff.1 ho).1
  ·exact D.bound j hj
 ·intro j oj hoj hj hR
  rcases List.mem_cons.1 hj with rfl|hj
  ·exact(hR ((hR' j).2 (.inl rfl))).elim
  ·exact D.quiet j oj hoj hj (fun h=>hR ((hR' j).2 (.inr h)))
 ·intro j oj hoj hj k hk
  rcases List.mem_cons.1 hj with rfl|hj
  ·rw[ho] at hoj;cases hoj;exact List.mem_cons_of_mem _ (hdL k hk)
  ·exact List.mem_cons_of_mem _ (D.closed j oj hoj hj k hk)
 ·intro j oj hoj hj k hk
  rcases (hR' j).1 hj with rfl|hj
  ·rw[ho] at hoj;cases hoj;exact(hR' k).2 (.inr (hd k hk))
  ·exact(hR' k).2 (.inr (D.closedR j oj hoj hj k hk))
 ·intro j oj hoj hj hR E hE
  have hji:j≠i:=fun e=>hR ((hR' j).2 (.inl e))
  have hjL:j∈L:=(List.mem_cons.1 hj).resolve_left hji
  have hjR:¬ R j:=fun h=>hR ((hR' j).2 (.inr h))
  simp only[if_neg hji]
  have hE':∀ t∈tmpsOf all oj,look E t=lk all (· ∈getL (clo all) j) V pre t:=fun t ht=>by rw[hE t ht,lkV _ t (hcl j oj hoj hjL)]
  cases hr:readsH oj with
  |false=>rw[qg_noread (H':=H) hr];exact D.val j oj hoj hjL hjR E hE'
  |true=>
   have hq:=D.quiet j oj hoj hjL hjR
   have hnc:j∉getL (clo all) i:=fun h=>hjR (clo_sub D.closedR ho hd j h)
   have h1:=again_get hag j oj hjL hoj hq hr hnc
   have hsub:∀ k∈getL (clo all) j,k∈i::L:=fun k hk=>List.mem_cons_of_mem _ (clo_sub D.closed hoj (D.closed j oj hoj hjL) k hk)
   have h2:qg G T own all oj E H'=qg G T own all oj (putE o.dst x env) H':=qg_congr fun t ht=>by
    rw[hE t ht,henv t]
    exact(lk_reads (S:=(· ∈i::L)) hok hoj hr hsub t ht).symm
   rw[h2,h1]
   have hds:oj.dst.isSome=true:=by
    unfold isQ at hq
    simp only[Bool.and_eq_true] at hq
    exact hq.1
   obtain⟨d,hd'⟩:=Option.isSome_iff_exists.1 hds
   rw[hd',Option.bind_some,henv d]
   have hok':=hok
   unfold drawOK at hok'
   simp only[Bool.and_eq_true] at hok'
   have:=((dstsOK_get hok'.1 j oj hoj).1 d hd').2
   rw[Nat.zero_add] at this
   unfold lk
   rw[this]
   simp only
   rw[if_pos hj,if_neg hji]
theorem Draw.listed (D:Draw G T own all pre R L V env H) {R':Nat→Prop} [DecidablePred R'] {i:Nat} {o:Oper} (ho:all[i]? =some o) (hi:i∈L) (hd:∀ j∈depsOf o,R j) (hR':∀ j,R' j↔(j=i∨R j)):Draw G T own all pre R' L V env H:=by
 refine⟨D.env,?_,D.bound,?_,D.closed,?_,?_⟩
 ·intro j hj
  rcases (hR' j).1 hj with rfl|hj
  ·exact hi
  ·exact D.sub j hj
 ·exact fun j oj hoj hj hR=>D.quiet j oj hoj hj (fun h=>hR ((hR' j).2 (.inr h)))
 ·intro j oj hoj hj k hk
  rcases (hR' j).1 hj with rfl|hj
  ·rw[ho] at hoj;cases hoj;exact(hR' k).2 (.inr (hd k hk))
  ·exact(hR' k).2 (.inr (D.closedR j oj hoj hj k hk))
 ·exact fun j oj hoj hj hR=>D.val j oj hoj hj (fun h=>hR ((hR' j).2 (.inr h)))
end
def lst (listed:Array Bool) (j:Nat):Prop:=listed.getD j false=true
instance (listed:Array Bool):DecidablePred (lst listed):=fun j=>inferInstanceAs (Decidable (_=true))
theorem lst_set {listed:Array Bool} {i:Nat} (hi:i<listed.size) (j:Nat):lst (listed.setIfInBounds i true) j↔(j=i∨lst listed j):=by
 unfold lst
 by_cases h:j=i
 ·subst h;simp[hi]
 ·rw[getD_set_ne false (fun e=>h e.symm)];simp[h]
theorem ready_nil {ops:Array Oper} (hok:drawOK nt ops.toList=true) {listed:Array Bool} (hsz:listed.size=ops.size) (h:Region.ready .any ops listed=[]):∀ i,i<ops.size→lst listed i:=by
 intro i
 induction i using Nat.strongRecOn with
 |_ i ih=>
  intro hi
  by_cases hl:lst listed i
  ·exact hl
  ·exfalso
   have hok':=hok
   unfold drawOK at hok'
   simp only[Bool.and_eq_true] at hok'
   have hmem:i∈Region.ready .any ops listed:=by
    rw[mem_ready]
    refine⟨?_,ops[i],by simp[hi],fun e he hb=>?_⟩
    ·unfold lst at hl
     have hi':i<listed.size:=by omega
     simp only[Array.getD_eq_getD_getElem?,Array.getElem?_eq_getElem hi',Option.getD_some] at hl ⊢
     simpa using hl
    ·have hlt:=(dstsOK_get hok'.1 i ops[i] (by simp[hi])).2 e.on (by unfold depsOf;rw[List.mem_map];exact⟨e,List.mem_filter.2 ⟨by simpa using he,hb⟩,rfl⟩)
     rw[Nat.zero_add] at hlt
     exact ih e.on hlt (by omega)
   rw[h] at hmem
   cases hmem
theorem draw_any (hT:TabOK P T) {ops:Array Oper} (hok:drawOK nt ops.toList=true) {pre:Env} {K:Env→List Blk→Prop} {Q:Exit→Act→World→Prop}
 (hQ:∀ env c a,K env c.H→Inv G nt C.w.heap.size c env a→Grow C c→Q .normal a c.w):∀ (fuel:Nat) (listed:Array Bool),listed.size=ops.size→listed.toList.count false≤fuel→
 ∀ {L:List Nat} {V:Nat→SV} {env envR:Env} {c:Cx} {a:Act} {n:Nat},Draw G T own ops.toList pre (lst listed) L V env c.H→Qs P G T own ops.toList n L env c.H K→
 (∀ t,look envR t=lk ops.toList (lst listed) V pre t)→Inv G nt C.w.heap.size c envR a→Grow C c→wpAnyIn (FR ρ) 0 P .any ops Q fuel listed a c.w:=by
 intro fuel
 have fin:∀ (listed:Array Bool),listed.size=ops.size→∀ {L:List Nat} {V:Nat→SV} {env envR:Env} {c:Cx} {a:Act} {n:Nat},Draw G T own ops.toList pre (lst listed) L V env c.H→Qs P G T own ops.toList n L env c.H K→
  (∀ t,look envR t=lk ops.toList (lst listed) V pre t)→Inv G nt C.w.heap.size c envR a→Grow C c→Region.ready .any ops listed=[]→Q .normal a c.w:=by
  intro listed hsz L V env envR c a n D hDr hR hi hg hr
  have hall:=ready_nil hok hsz hr
  obtain⟨_,hDr⟩:=hDr
  have hDr:K env c.H:=by
   rcases hDr with⟨_,h⟩|⟨⟨i,o,h1,h2⟩,_⟩
   ·exact h
   ·exact(h2 (D.sub i (hall i (by have:=(List.getElem?_eq_some_iff.1 h1).1;simpa using this)))).elim
  ·refine hQ env c a hDr ⟨hi.heap,hi.glob,hi.size,fun t x hx=>hi.env t x ?_,hi.defs⟩ hg
   rw[← hx,D.env t,hR t]
   unfold lk
   cases hw:wrOf t 0 ops.toList with
   |none=>rfl
   |some j=>
    obtain⟨k,o,e1,e2,e3⟩:=wrOf_some hw
    have hlt:=(List.getElem?_eq_some_iff.1 e2).1
    rw[Nat.zero_add] at e1
    have hj:lst listed j:=hall j (by rw[e1];simpa using hlt)
    simp only
    rw[if_pos hj,if_pos (D.sub j hj)]
 induction fuel with
 |zero=>
  intro listed hsz hc L V env envR c a n D hDr hR hi hg
  have hr:Region.ready .any ops listed=[]:=by
   cases hh:Region.ready .any ops listed with
   |nil=>rfl
   |cons m r=>
    have hm:m∈Region.ready .any ops listed:=by rw[hh];exact List.mem_cons_self ..
    rw[mem_ready] at hm
    have h0:listed.toList.count false=0:=by omega
    rw[List.count_eq_zero] at h0
    obtain⟨h1,o,h2,_⟩:=hm
    have hlt:=(Array.getElem?_eq_some_iff.1 h2).1
    have hlt':m<listed.size:=by omega
    rw[Array.getD_eq_getD_getElem?,Array.getElem?_eq_getElem hlt',Option.getD_some] at h1
    exact(h0 (by rw[← h1];simp)).elim
  exact⟨hr,fin listed hsz D hDr hR hi hg hr⟩
 |succ fuel ih=>
  intro listed hsz hc L V env envR c a n D hDr hR hi hg
  refine⟨fun hr=>fin listed hsz D hDr hR hi hg hr,fun i hir=>?_⟩
  rw[mem_ready] at hir
  obtain⟨h1,o,h2,h3⟩:=hir
  have hlt:=(Array.getElem?_eq_some_iff.1 h2).1
  have hlt':i<listed.size:=by omega
  have hol:ops.toList[i]? =some o:=by simpa using h2
  have hn:¬ lst listed i:=by
   unfold lst
   rw[Array.getD_eq_getD_getElem?,Array.getElem?_eq_getElem hlt',Option.getD_some] at h1 ⊢
   rw[h1];simp
  have hdeps:∀ j∈depsOf o,lst listed j:=fun j hj=>by
   unfold depsOf at hj
   obtain⟨e,he,rfl⟩:=List.mem_map.1 hj
   obtain⟨he1,he2⟩:=List.mem_filter.1 he
   exact h3 e (by simpa using he1) he2
  have hset:=lst_set (listed:=listed) hlt'
  have hcnt:(listed.setIfInBounds i true).toList.count false≤fuel:=by
   have hg:listed.toList[i]'(by simpa using hlt')=false:=by
    rw[Array.getD_eq_getD_getElem?,Array.getElem?_eq_getElem hlt',Option.getD_some] at h1
    simpa using h1
   rw[Array.toList_setIfInBounds,List.count_set (by simpa using hlt'),hg]
   have:0<listed.toList.count false:=List.count_pos_iff.2 (by rw[← hg];simp)
   show listed.toList.count false - 1+0≤fuel
   omega
  have hok':=hok
  unfold drawOK at hok'
  simp only[Bool.and_eq_true] at hok'
  have hdst:∀ d,o.dst=some d→d<nt:=fun d hd=>((dstsOK_get hok'.1 i o hol).1 d hd).1
  by_cases hiL:i∈L
  ·have hval:=D.val i o hol hiL hn envR fun t ht=>by
    rw[hR t]
    exact lk_see hok D.closedR hol hn hdeps t ht
   refine op_any hT hi h2 hdst (k:=fun x H'=>x=V i∧H'=c.H) (qg_exG hval ⟨rfl,rfl⟩) ?_
   rintro x c' a' ⟨rfl,hH⟩ hi' hg'
   refine ih (listed.setIfInBounds i true) (by simp[hsz]) hcnt (L:=L) (V:=V) (env:=env) (n:=n) ?_ (by rw[hH];exact hDr) ?_ hi' (hg.trans hg')
   ·rw[hH];exact D.listed hol hiL hdeps hset
   ·exact lk_put hok hol hset (fun _ _ _=>rfl) rfl hR
  ·have hex:exG P G T own ops.toList o env c.H fun x H'=>again G T own ops.toList i (putE o.dst x env) H' L∧Dr P G T own ops.toList n (i::L) (putE o.dst x env) H' K:=by
    rcases hDr.2 with⟨h,_⟩|⟨_,h⟩
    ·exact(hiL (h i o hol)).elim
    ·exact h i o hol hiL (fun j hj=>D.sub j (hdeps j hj))
   ·skip
    have hag:Agree ops.toList o env envR:=fun t ht=>by
     rw[D.env t,hR t,lk_see hok D.closed hol hiL (fun j hj=>D.sub j (hdeps j hj)) t ht]
     exact(lk_see hok D.closedR hol hn hdeps t ht).symm
    refine op_any hT hi h2 hdst (exG_congr hag hex) ?_
    rintro x c' a' ⟨hagain,hDr'⟩ hi' hg'
    obtain⟨V',e1,e2,D'⟩:=D.loudStep hok hol hiL hdeps hset hagain
    obtain⟨n',L',V2,env2,g1,g2,g4⟩:=Draw.rest hok n D' hDr'
    refine ih (listed.setIfInBounds i true) (by simp[hsz]) hcnt g1 g2 (fun t=>?_) hi' (hg.trans hg')
    have hb:∀ j,lst (listed.setIfInBounds i true) j→j∈i::L:=fun j hj=>D'.sub j hj
    refine lk_put hok hol hset (S:=lst listed) (fun j hj hji=>?_) ?_ hR t
    ·rw[(g4 j (hb j ((hset j).2 (.inr hj)))).2,e1 j hji]
    ·rw[(g4 i (List.mem_cons_self ..)).2,e2]
theorem AWP.draw (hT:TabOK P T) (hm:P.follows .mixedOrders=true) {id:Nat} {ops:Array Oper} {Q:Exit→St→Prop} {s:St} (hok:drawOK nt ops.toList=true) {n:Nat} (h:Dr P G T own ops.toList n [] s.env s.H fun env H=>Q .normal ⟨env,H⟩):AWP P G nt ρ C (.region id ops true) Q s:=by
 intro c a hc hi hg
 refine wpIn_region_any hm ?_
 obtain⟨e1,e2⟩:=Cx.world hi.heap (w':={ c.w with drawn:=c.w.drawn+1}) (fun _ _=>rfl) (Nat.le_refl _) rfl rfl rfl
 have hi':Inv G nt C.w.heap.size { c with w:={ c.w with drawn:=c.w.drawn+1}} s.env a:=⟨e2,hi.glob.grow e1,hi.size,fun t x hx=>(hi.env t x hx).grow e1,hi.defs.grow e1⟩
 have hDr:Dr P G T own ops.toList n [] s.env c.H fun env H=>Q .normal ⟨env,H⟩:=by rw[hc];exact h
 have hno:∀ j,¬ lst (Array.replicate ops.size false) j:=fun j=>by
  unfold lst
  rw[Array.getD_eq_getD_getElem?]
  by_cases hj:j<ops.size
  ·simp[hj]
  ·simp[hj]
 have hlk0:∀ t,look s.env t=lk ops.toList (lst (Array.replicate ops.size false)) (fun _=> .undef) s.env t:=fun t=>by
  unfold lk
  cases wrOf t 0 ops.toList with
  |none=>rfl
  |some j=>simp only;rw[if_neg (hno j)]
 have D0:Draw G T own ops.toList s.env (lst (Array.replicate ops.size false)) [] (fun _=> .undef) s.env c.H:=by
  refine⟨fun t=>?_,fun j hj=>(hno j hj).elim,fun j hj=>(List.not_mem_nil hj).elim,fun j o _ hj=>(List.not_mem_nil hj).elim,fun j o _ hj=>(List.not_mem_nil hj).elim,fun j o _ hj=>(hno j hj).elim,fun j o _ hj=>(List.not_mem_nil hj).elim⟩
  unfold lk
  cases wrOf t 0 ops.toList with
  |none=>rfl
  |some j=>simp only;rw[if_neg List.not_mem_nil]
 obtain⟨n',L',V',env',g1,g2,g4⟩:=Draw.rest hok n D0 hDr
 refine draw_any (c:={ c with w:={ c.w with drawn:=c.w.drawn+1}}) (pre:=s.env) (Q:=fun e a' w'=>∃ s' c',Q e s'∧c'.H=s'.H∧c'.w=w'∧Inv G nt C.w.heap.size c' s'.env a'∧Grow C c') hT hok (fun env c a hk hi hg=>⟨⟨env,c.H⟩,c,hk,rfl,rfl,hi,hg⟩) ops.size (Array.replicate ops.size false) (by simp) ?_ g1 g2 (fun t=>?_) hi' (hg.trans e1)
 ·exact Nat.le_trans (List.count_le_length ..) (by simp)
 ·rw[hlk0 t]
  unfold lk
  cases wrOf t 0 ops.toList with
  |none=>rfl
  |some j=>simp only;rw[if_neg (hno j),if_neg (hno j)]
end
end
section
def LP (m:Nat) (ex:List Nat) (i:Nat):Bool:=Nat.blt i m||memN i ex
def agC (own:List Nat) (all:List Oper) (cj:List Nat) (i:Nat):Bool:=match all[i]? with
 |some o=>isQ own o&&readsH o&&!memN i cj
 |none=>false
def agL (own:List Nat) (all:List Oper) (cj:List Nat):List Nat→List Nat
 |[]=>[]
 |i::r=>bif agC own all cj i then i::agL own all cj r else agL own all cj r
def agR (own:List Nat) (all:List Oper) (cj:List Nat):Nat→List Nat
 |0=>[]
 |i+1=>bif agC own all cj i then i::agR own all cj i else agR own all cj i
def stepQ (own:List Nat) (all:List Oper) (m:Nat) (ex:List Nat):Option Oper:=match all[m]? with
 |some o=>bif !memN m ex&&isQ own o&&(depsOf o).all (LP m ex) then some o else none
 |none=>none
def firstQP (own:List Nat) (m:Nat) (ex:List Nat):Nat→List Oper→Option Nat
 |_,[]=>none
 |i,o::r=>bif !LP m ex i&&isQ own o&&(depsOf o).all (LP m ex) then some i else firstQP own m ex (i+1) r
def readyP (m:Nat) (ex:List Nat):Nat→List Oper→List Nat
 |_,[]=>[]
 |i,o::r=>bif !LP m ex i&&(depsOf o).all (LP m ex) then i::readyP m ex (i+1) r else readyP m ex (i+1) r
def DrP (P:Program) (G:Gl) (T:Tab) (own:List Nat) (all:List Oper) (n m:Nat) (ex:List Nat) (env:Env) (H:List Blk) (K:Env→List Blk→Prop):Prop:=
 ∀ L:List Nat,(∀ i,i∈L↔LP m ex i=true)→Dr P G T own all n L env H K
section
variable {P:Program} {G:Gl} {T:Tab} {own:List Nat} {nt B:Nat} {ρ:Option Nat} {C:Cx} {rs:List ResultVar} {R:SV→List Blk→Prop} {env env2:Env} {H H':List Blk} {k:List It}
variable {all:List Oper} {L:List Nat} {n i j ty d:Nat} {op:Op} {pos:String} {after:Array Edge} {v:SV} {o:Oper} {K:Env→List Blk→Prop}
def AgAll (G:Gl) (T:Tab) (own:List Nat) (all:List Oper) (env:Env) (H:List Blk):List Nat→Prop
 |[]=>True
 |i::r=>(∃ o,all[i]? =some o∧qg G T own all o env H=(o.dst).bind (look env))∧AgAll G T own all env H r
theorem AgAll.get {env:Env} {H:List Blk}:∀ {l:List Nat},AgAll G T own all env H l→∀ i∈l,∃ o,all[i]? =some o∧qg G T own all o env H=(o.dst).bind (look env)
 |i::r,h,j,hj=>by
  rcases List.mem_cons.1 hj with rfl|hj
  ·exact h.1
  ·exact AgAll.get h.2 j hj
theorem mem_agL {cj:List Nat}:∀ {l:List Nat} {i:Nat},i∈l→agC own all cj i=true→i∈agL own all cj l
 |k::r,i,hi,hc=>by
  simp only[agL]
  rcases List.mem_cons.1 hi with rfl|hi
  ·rw[hc];exact List.mem_cons_self ..
  ·cases agC own all cj k with
   |true=>exact List.mem_cons_of_mem _ (mem_agL hi hc)
   |false=>exact mem_agL hi hc
theorem mem_agR {cj:List Nat}:∀ {m i:Nat},i<m→agC own all cj i=true→i∈agR own all cj m
 |0,i,hi,hc=>by omega
 |m+1,i,hi,hc=>by
  simp only[agR]
  by_cases h:i=m
  ·subst h;rw[hc];exact List.mem_cons_self ..
  ·have hi':i<m:=by omega
   cases agC own all cj m with
   |true=>exact List.mem_cons_of_mem _ (mem_agR hi' hc)
   |false=>exact mem_agR hi' hc
theorem again_of {j m:Nat} {ex:List Nat} {env:Env} {H:List Blk} (h:AgAll G T own all env H (agR own all (getL (clo all) j) m++agL own all (getL (clo all) j) ex)):∀ {L:List Nat},(∀ i∈L,LP m ex i=true)→again G T own all j env H L
 |[],_=>trivial
 |i::r,hL=>by
  refine⟨?_,again_of h fun k hk=>hL k (List.mem_cons_of_mem _ hk)⟩
  cases ho:all[i]? with
  |none=>trivial
  |some o=>
   intro hc
   have hc':agC own all (getL (clo all) j) i=true:=by unfold agC;rw[ho];exact hc
   have hi:=hL i (List.mem_cons_self ..)
   simp only[LP,Bool.or_eq_true,Nat.blt_eq,memN_iff] at hi
   have hm:i∈agR own all (getL (clo all) j) m++agL own all (getL (clo all) j) ex:=by
    rw[List.mem_append]
    rcases hi with hi|hi
    ·exact .inl (mem_agR hi hc')
    ·exact .inr (mem_agL hi hc')
   obtain⟨o',h1,h2⟩:=AgAll.get h i hm
   rw[ho] at h1
   cases h1
   exact h2
theorem again_eqE (he:EqE env env2):∀ {L:List Nat},again G T own all j env H L→again G T own all j env2 H L
 |[],_=>trivial
 |i::r,h=>by
  refine⟨?_,again_eqE he h.2⟩
  have h1:=h.1
  cases ho:all[i]? with
  |none=>trivial
  |some o=>
   rw[ho] at h1
   intro hc
   have h2:=h1 hc
   rw[← qg_congr (env:=env) (env2:=env2) (fun t _=>he t),h2]
   cases o.dst with
   |none=>rfl
   |some d=>exact he d
theorem EqE.put (he:EqE env env2) (d:Option Nat) (x:SV):EqE (putE d x env) (putE d x env2):=by
 cases d with
 |none=>exact he
 |some d=>exact he.cons _
theorem Dr.eqE (hK:∀ a b H,EqE a b→K a H→K b H):∀ {n:Nat} {L:List Nat} {env env2:Env} {H:List Blk},EqE env env2→Dr P G T own all n L env H K→Dr P G T own all n L env2 H K
 |0,_,_,_,_,_,h=>h
 |n+1,L,env,env2,H,he,h=>by
  rcases h with⟨i,o,v,h1,h2,h3,h4,h5,h6⟩|⟨h1,h2⟩
  ·exact .inl ⟨i,o,v,h1,h2,h3,h4,by rw[← qg_congr (env:=env) (env2:=env2) (fun t _=>he t)];exact h5,Dr.eqE hK (he.put _ _) h6⟩
  ·refine .inr ⟨h1,?_⟩
   rcases h2 with⟨h2,h3⟩|⟨h2,h3⟩
   ·exact .inl ⟨h2,hK _ _ _ he h3⟩
   ·exact .inr ⟨h2,fun j o a1 a2 a3=>exG_congr (fun t _=>he t) (exG_mono (fun x H' hx=>⟨again_eqE (he.put _ _) hx.1,Dr.eqE hK (he.put _ _) hx.2⟩) (h3 j o a1 a2 a3))⟩
variable {m:Nat} {ex:List Nat}
theorem LP_iff {i:Nat}:LP m ex i=true↔i<m∨i∈ex:=by simp only[LP,Bool.or_eq_true,Nat.blt_eq,memN_iff]
theorem not_LP {L:List Nat} (hL:∀ i,i∈L↔LP m ex i=true) {i:Nat} (h:(!LP m ex i)=true):i∉L:=fun hi=>by rw[(hL i).1 hi] at h;cases h
theorem deps_LP {L:List Nat} (hL:∀ i,i∈L↔LP m ex i=true) {o:Oper} (h:(depsOf o).all (LP m ex)=true):∀ j∈depsOf o,j∈L:=fun j hj=>(hL j).2 (List.all_eq_true.1 h j hj)
theorem go_draw (hT:TabOK P T) (hm:P.follows .mixedOrders=true) {id:Nat} {ops:Array Oper} {l:List Oper} (hl:ops=⟨l⟩) (hok:drawOK nt l=true) (h:DrP P G T own l 200 0 [] env H (fun env H=>(Out P G T own nt ρ C rs R) k .normal env H)):(Out P G T own nt ρ C rs R) (.code (.region id ops true)::k) .normal env H:=by
 subst hl
 exact AWP.draw hT hm (own:=own) (Q:=fun e s=>(Out P G T own nt ρ C rs R) k e s.env s.H) hok (h [] (fun i=>by simp[LP,memN,Nat.blt_eq]))
theorem dr_done (hm:Nat.ble all.length m=true) (h:(Out P G T own nt ρ C rs R) k .normal env H):(DrP P G T own all) (n+1) m ex env H (fun env H=>(Out P G T own nt ρ C rs R) k .normal env H):=fun L hL=>by
 have hall:∀ i o,all[i]? =some o→i∈L:=fun i o ho=>(hL i).2 (LP_iff.2 (.inl (by
  have h1:=(List.getElem?_eq_some_iff.1 ho).1
  have h2:=Nat.le_of_ble_eq_true hm
  omega)))
 exact .inr ⟨fun i o ho hn=>(hn (hall i o ho)).elim,.inl ⟨hall,h⟩⟩
theorem dr_adv (hm:memN m ex=true) (h:(DrP P G T own all) n (m+1) ex env H K):(DrP P G T own all) n m ex env H K:=fun L hL=>h L fun i=>by
 rw[hL i,LP_iff,LP_iff]
 have:=memN_iff.1 hm
 constructor
 ·rintro (h|h)
  ·exact .inl (by omega)
  ·exact .inr h
 ·rintro (h|h)
  ·by_cases e:i=m
   ·subst e;exact .inr this
   ·exact .inl (by omega)
  ·exact .inr h
theorem stepQ_some {o:Oper} (h:stepQ own all m ex=some o):all[m]? =some o∧m∉ex∧isQ own o=true∧(depsOf o).all (LP m ex)=true:=by
 unfold stepQ at h
 split at h
 ·rename_i o' ho
  cases hb:(!memN m ex&&isQ own o'&&(depsOf o').all (LP m ex)) with
  |false=>rw[hb] at h;cases h
  |true=>
   rw[hb] at h
   cases h
   simp only[Bool.and_eq_true,Bool.not_eq_true'] at hb
   exact⟨ho,fun hm=>by rw[memN_iff.2 hm] at hb;exact absurd hb.1.1 (by simp),hb.1.2,hb.2⟩
 ·cases h
theorem firstQP_some:∀ {l:List Oper} {i j:Nat},firstQP own m ex i l=some j→∃ k o,j=i+k∧l[k]? =some o∧(!LP m ex j)=true∧isQ own o=true∧(depsOf o).all (LP m ex)=true
 |[],i,j,h=>by cases h
 |o'::r,i,j,h=>by
  simp only[firstQP] at h
  cases hb:(!LP m ex i&&isQ own o'&&(depsOf o').all (LP m ex)) with
  |true=>
   rw[hb] at h
   cases h
   simp only[Bool.and_eq_true] at hb
   exact⟨0,o',rfl,rfl,hb.1.1,hb.1.2,hb.2⟩
  |false=>
   rw[hb] at h
   obtain⟨k,o,h1,h2,h3⟩:=firstQP_some h
   exact⟨k+1,o,by omega,by simpa using h2,h3⟩
theorem firstQP_none:∀ {l:List Oper} {i:Nat},firstQP own m ex i l=none→∀ k o,l[k]? =some o→LP m ex (i+k)=false→(depsOf o).all (LP m ex)=true→isQ own o=false
 |[],i,_,k,o,ho,_,_=>by simp at ho
 |o'::r,i,h,k,o,ho,hm,hd=>by
  simp only[firstQP] at h
  cases hb:(!LP m ex i&&isQ own o'&&(depsOf o').all (LP m ex)) with
  |true=>rw[hb] at h;cases h
  |false=>
   rw[hb] at h
   cases k with
   |zero=>
    simp at ho
    subst ho
    cases hq:isQ own o' with
    |false=>rfl
    |true=>rw[Nat.add_zero] at hm;rw[hm,hq,hd] at hb;cases hb
   |succ k=>exact firstQP_none h k o (by simpa using ho) (by rw[show i+1+k=i+(k+1) by omega];exact hm) hd
theorem mem_readyP:∀ {l:List Oper} {i k:Nat} {o:Oper},l[k]? =some o→LP m ex (i+k)=false→(depsOf o).all (LP m ex)=true→i+k∈readyP m ex i l
 |[],i,k,o,ho,_,_=>by simp at ho
 |o'::r,i,k,o,ho,hm,hd=>by
  simp only[readyP]
  cases k with
  |zero=>
   simp at ho
   subst ho
   rw[Nat.add_zero] at hm ⊢
   rw[hm,hd]
   exact List.mem_cons_self ..
  |succ k=>
   have:=mem_readyP (l:=r) (i:=i+1) (k:=k) (o:=o) (by simpa using ho) (by rw[show i+1+k=i+(k+1) by omega];exact hm) hd
   rw[show i+1+k=i+(k+1) by omega] at this
   cases hb:(!LP m ex i&&(depsOf o').all (LP m ex)) with
   |true=>exact List.mem_cons_of_mem _ this
   |false=>exact this
theorem readyP_mem:∀ {l:List Oper} {i j:Nat},j∈readyP m ex i l→∃ k o,j=i+k∧l[k]? =some o∧(!LP m ex j)=true
 |[],i,j,h=>by cases h
 |o'::r,i,j,h=>by
  simp only[readyP] at h
  have go:j∈readyP m ex (i+1) r→∃ k o,j=i+k∧(o'::r)[k]? =some o∧(!LP m ex j)=true:=fun h=>by
   obtain⟨k,o,h1,h2,h3⟩:=readyP_mem h
   exact⟨k+1,o,by omega,by simpa using h2,h3⟩
  cases hb:(!LP m ex i&&(depsOf o').all (LP m ex)) with
  |true=>
   rw[hb] at h
   rcases List.mem_cons.1 h with rfl|h
   ·simp only[Bool.and_eq_true] at hb
    exact⟨0,o',rfl,rfl,hb.1⟩
   ·exact go h
  |false=>rw[hb] at h;exact go h
theorem LP_ins {L:List Nat} (hL:∀ i,i∈L↔LP m ex i=true) (j:Nat):∀ i,i∈j::L↔LP m (j::ex) i=true:=fun i=>by
 rw[List.mem_cons,hL i,LP_iff,LP_iff,List.mem_cons]
 constructor
 ·rintro (h|h|h)
  ·exact .inr (.inl h)
  ·exact .inl h
  ·exact .inr (.inr h)
 ·rintro (h|h|h)
  ·exact .inr (.inl h)
  ·exact .inl h
  ·exact .inr (.inr h)
theorem LP_next {L:List Nat} (hL:∀ i,i∈L↔LP m ex i=true):∀ i,i∈m::L↔LP (m+1) ex i=true:=fun i=>by
 rw[List.mem_cons,hL i,LP_iff,LP_iff]
 constructor
 ·rintro (h|h|h)
  ·exact .inl (by omega)
  ·exact .inl (by omega)
  ·exact .inr h
 ·rintro (h|h)
  ·by_cases e:i=m
   ·exact .inl e
   ·exact .inr (.inl (by omega))
  ·exact .inr (.inr h)
theorem not_mem_next {L:List Nat} (hL:∀ i,i∈L↔LP m ex i=true) (h:m∉ex):m∉L:=fun hi=>by
 rcases LP_iff.1 ((hL m).1 hi) with h1|h1
 ·omega
 ·exact h h1
def AgP (G:Gl) (T:Tab) (own:List Nat) (all:List Oper) (j m:Nat) (ex:List Nat) (env:Env) (H:List Blk):Prop:=AgAll G T own all env H (agR own all (getL (clo all) j) m++agL own all (getL (clo all) j) ex)
theorem loud_any (hf:firstQP own m ex 0 all=none) {j0:Nat} {js:List Nat} (hr:readyP m ex 0 all=j0::js) (h:∀ j∈j0::js,∃ o,all[j]? =some o∧exG P G T own all o env H fun x H'=>AgP G T own all j m ex (putE o.dst x env) H'∧(DrP P G T own all) n m (j::ex) (putE o.dst x env) H' K):(DrP P G T own all) (n+1) m ex env H K:=fun L hL=>by
 have lpf:∀ i,i∉L→LP m ex i=false:=fun i hi=>by
  cases hb:LP m ex i with
  |false=>rfl
  |true=>exact(hi ((hL i).2 hb)).elim
 have dpf:∀ o,(∀ j∈depsOf o,j∈L)→(depsOf o).all (LP m ex)=true:=fun o hd=>List.all_eq_true.2 fun j hj=>(hL j).1 (hd j hj)
 refine .inr ⟨fun i o ho hn hd=>firstQP_none hf i o ho (by rw[Nat.zero_add];exact lpf i hn) (dpf o hd),.inr ⟨?_,fun j o ho hn hd=>?_⟩⟩
 ·obtain⟨k,o,e1,e2,e3⟩:=readyP_mem (m:=m) (ex:=ex) (l:=all) (i:=0) (j:=j0) (by rw[hr];exact List.mem_cons_self ..)
  rw[Nat.zero_add] at e1
  subst e1
  exact⟨j0,o,e2,not_LP hL e3⟩
 ·have hmem:=mem_readyP (m:=m) (ex:=ex) (l:=all) (i:=0) ho (by rw[Nat.zero_add];exact lpf j hn) (dpf o hd)
  rw[Nat.zero_add,hr] at hmem
  obtain⟨o',ho',hx⟩:=h j hmem
  rw[ho] at ho'
  cases ho'
  exact exG_mono (fun x H' hh=>⟨again_of hh.1 (fun i hi=>(hL i).1 hi),hh.2 (j::L) (LP_ins hL j)⟩) hx
theorem dr_l1 (hf:firstQP own m ex 0 all=none) (hr:readyP m ex 0 all=[j]) (ho:all[j]? =some o) (h:exG P G T own all o env H fun x H'=>AgP G T own all j m ex (putE o.dst x env) H'∧(DrP P G T own all) n m (j::ex) (putE o.dst x env) H' K):(DrP P G T own all) (n+1) m ex env H K:=
 loud_any hf hr fun j' hj=>by rw[List.mem_singleton.1 hj];exact⟨o,ho,h⟩
theorem dr_l2 {j2:Nat} {o2:Oper} (hf:firstQP own m ex 0 all=none) (hr:readyP m ex 0 all=[j,j2]) (ho:all[j]? =some o) (ho2:all[j2]? =some o2) (h:exG P G T own all o env H fun x H'=>AgP G T own all j m ex (putE o.dst x env) H'∧(DrP P G T own all) n m (j::ex) (putE o.dst x env) H' K)
 (h2:exG P G T own all o2 env H fun x H'=>AgP G T own all j2 m ex (putE o2.dst x env) H'∧(DrP P G T own all) n m (j2::ex) (putE o2.dst x env) H' K):(DrP P G T own all) (n+1) m ex env H K:=
 loud_any hf hr fun j' hj=>by
  rcases List.mem_cons.1 hj with rfl|hj
  ·exact⟨o,ho,h⟩
  ·rw[List.mem_singleton.1 hj];exact⟨o2,ho2,h2⟩
variable {kk:SV→List Blk→Prop} {dst:Option Nat} {want b:Bool} {dj:Nat}
theorem xg_q (h:qv G T own env H dst ty op=some v) (hk:kk v H):exG P G T own all ⟨dst,op,ty,pos,after,none⟩ env H kk:=qv_ok h hk
theorem xg_l (h:lv G T own env H dst ty op=some (v,H')) (hk:kk v H'):exG P G T own all ⟨dst,op,ty,pos,after,none⟩ env H kk:=lv_ok h hk
theorem xg_run (h1:(all[j]?).bind (·.dst)=some dj) (h2:look env dj=some (.bool want)) (h:exG P G T own all ⟨dst,op,ty,pos,after,none⟩ env H kk):exG P G T own all ⟨dst,op,ty,pos,after,some (j,want)⟩ env H kk:=
 ⟨dj,h1,_,h2,some want,rfl,And.intro (fun _=>h) (fun e=>by simp at e)⟩
theorem xg_skip {u:SV} {bo:Option Bool} (h1:(all[j]?).bind (·.dst)=some dj) (h2:look env dj=some u) (h3:asG u=some bo) (hb:(bo==some want)=false) (h:kk .undef H):exG P G T own all ⟨dst,op,ty,pos,after,some (j,want)⟩ env H kk:=
 ⟨dj,h1,_,h2,bo,h3,And.intro (fun e=>by rw[hb] at e;cases e) (fun _=>h)⟩
variable {R':SV→List Blk→Prop} {xs:List SV} {f:Operand} {fv:SV} {args:Array Operand} {tys:Array Nat} {g:FuncId}
theorem xg_callV (h1:ev G env f=some fv) (h2:evs G env args.toList=some xs) (hc:ACallV P G fv xs H R') (hk:∀ x H',R' x H'→kk x H'):exG P G T own all ⟨dst,.call ⟨.value f,args,tys⟩,ty,pos,after,none⟩ env H kk:=
 ⟨fv,h1,xs,h2,hc.mono fun x H' hr=>hk x H' hr⟩
theorem xg_call (h2:evs G env args.toList=some xs) (hc:ACall P G g xs H R') (hk:∀ x H',R' x H'→kk x H'):exG P G T own all ⟨dst,.call ⟨.value (.func g),args,tys⟩,ty,pos,after,none⟩ env H kk:=
 xg_callV rfl h2 (ACallV.of (by simpa using hc)) hk
theorem ag_mkS {x:SV} {l:List Nat} (h1:agR own all (getL (clo all) j) m++agL own all (getL (clo all) j) ex=l) (h2:AgAll G T own all ((d,x)::env) H l) (h:(DrP P G T own all) n m (j::ex) ((d,x)::env) H K):AgP G T own all j m ex (putE (some d) x env) H∧(DrP P G T own all) n m (j::ex) (putE (some d) x env) H K:=⟨by unfold AgP;rw[h1];exact h2,h⟩
theorem ag_mkN {x:SV} {l:List Nat} (h1:agR own all (getL (clo all) j) m++agL own all (getL (clo all) j) ex=l) (h2:AgAll G T own all env H l) (h:(DrP P G T own all) n m (j::ex) env H K):AgP G T own all j m ex (putE none x env) H∧(DrP P G T own all) n m (j::ex) (putE none x env) H K:=⟨by unfold AgP;rw[h1];exact h2,h⟩
theorem ag_nil:AgAll G T own all env H []:=trivial
theorem ag_c0 {r:List Nat} (h:all[i]? =some ⟨some d,op,ty,pos,after,none⟩) (hl:look env d=some v) (hv:qv G T own env H (some d) ty op=some v) (hr:AgAll G T own all env H r):AgAll G T own all env H (i::r):=
 ⟨⟨_,h,by simp only[qg,hv,Option.bind_some,hl]⟩,hr⟩
theorem ag_cR {r:List Nat} {dj:Nat} {want:Bool} {u:SV} (h:all[i]? =some ⟨some d,op,ty,pos,after,some (j,want)⟩) (h1:(all[j]?).bind (·.dst)=some dj) (h2:look env dj=some (.bool want)) (hl:look env d=some u) (hv:qv G T own env H (some d) ty op=some v) (he:u=v) (hr:AgAll G T own all env H r):AgAll G T own all env H (i::r):=
 ⟨⟨_,h,by simp only[qg,h1,ob_some,h2,asG,beq_self_eq_true,bb_true,hv,Option.bind_some,hl,he]⟩,hr⟩
theorem ag_cS {r:List Nat} {dj:Nat} {want:Bool} {u u2:SV} {b:Option Bool} (h:all[i]? =some ⟨some d,op,ty,pos,after,some (j,want)⟩) (h1:(all[j]?).bind (·.dst)=some dj) (h2:look env dj=some u) (h3:asG u=some b) (hb:(b==some want)=false) (hl:look env d=some u2) (he:u2= .undef) (hr:AgAll G T own all env H r):AgAll G T own all env H (i::r):=
 ⟨⟨_,h,by simp only[qg,h1,ob_some,h2,h3,hb,bb_false,Option.bind_some,hl,he]⟩,hr⟩
theorem ag_cM1 {r:List Nat} {dj:Nat} {want b:Bool} (h:all[i]? =some ⟨some d,op,ty,pos,after,some (j,want)⟩) (h1:(all[j]?).bind (·.dst)=some dj) (h2:look env dj=some (.bool b)) (hl:look env d=some (gv b want v)) (hv:b=want→qv G T own env H (some d) ty op=some v) (hr:AgAll G T own all env H r):AgAll G T own all env H (i::r):=by
 by_cases hw:b=want
 ·subst hw
  rw[gv_self] at hl
  exact ag_cR h h1 h2 hl (hv rfl) rfl hr
 ·have e:gv b want v= .undef:=by cases b<;>cases want<;>first|rfl|exact(hw rfl).elim
  exact ag_cS h h1 h2 rfl (by cases b<;>cases want<;>first|rfl|exact(hw rfl).elim) hl e hr
theorem ag_cM2 {r:List Nat} {dj:Nat} {want b b1 w1:Bool} (h:all[i]? =some ⟨some d,op,ty,pos,after,some (j,want)⟩) (h1:(all[j]?).bind (·.dst)=some dj) (h2:look env dj=some (gv b1 w1 (.bool b))) (hl:look env d=some (gv b1 w1 (gv b want v))) (hv:b1=w1→b=want→qv G T own env H (some d) ty op=some v) (hr:AgAll G T own all env H r):AgAll G T own all env H (i::r):=by
 by_cases hw:b1=w1
 ·subst hw
  rw[gv_self] at hl h2
  exact ag_cM1 h h1 h2 hl (hv rfl) hr
 ·have e:∀ x,gv b1 w1 x= .undef:=fun x=>by cases b1<;>cases w1<;>first|rfl|exact(hw rfl).elim
  rw[e] at h2
  exact ag_cS h h1 h2 rfl rfl hl (e _) hr
theorem ag_cM3 {r:List Nat} {dj:Nat} {want b b1 w1 b2 w2:Bool} (h:all[i]? =some ⟨some d,op,ty,pos,after,some (j,want)⟩) (h1:(all[j]?).bind (·.dst)=some dj) (h2:look env dj=some (gv b1 w1 (gv b2 w2 (.bool b)))) (hl:look env d=some (gv b1 w1 (gv b2 w2 (gv b want v)))) (hv:b1=w1→b2=w2→b=want→qv G T own env H (some d) ty op=some v) (hr:AgAll G T own all env H r):AgAll G T own all env H (i::r):=by
 by_cases hw:b1=w1
 ·subst hw
  rw[gv_self] at hl h2
  exact ag_cM2 h h1 h2 hl (hv rfl) hr
 ·have e:∀ x,gv b1 w1 x= .undef:=fun x=>by cases b1<;>cases w1<;>first|rfl|exact(hw rfl).elim
  rw[e] at h2
  exact ag_cS h h1 h2 rfl rfl hl (e _) hr
def StG (P:Program) (G:Gl) (T:Tab) (own:List Nat) (all:List Oper) (n m:Nat) (ex:List Nat) (o:Oper) (env:Env) (H:List Blk) (K:Env→List Blk→Prop):Prop:=
 ∃ v,qg G T own all o env H=some v∧DrP P G T own all n m ex (putE o.dst v env) H K
theorem dr_s {m2:Nat} (hs:stepQ own all m ex=some o) (hm:m+1=m2) (h:(StG P G T own all) n m2 ex o env H K):(DrP P G T own all) (n+1) m ex env H K:=fun L hL=>by
 subst hm
 obtain⟨v,hv,h⟩:=h
 obtain⟨h1,h2,h3,h4⟩:=stepQ_some hs
 exact .inl ⟨m,_,v,h1,not_mem_next hL h2,h3,deps_LP hL h4,hv,h (m::L) (LP_next hL)⟩
theorem dr_so (hf:firstQP own m ex 0 all=some i) (ho:all[i]? =some o) (h:(StG P G T own all) n m (i::ex) o env H K):(DrP P G T own all) (n+1) m ex env H K:=fun L hL=>by
 obtain⟨v,hv,h⟩:=h
 obtain⟨k,o,h1,h2,h3,h4,h5⟩:=firstQP_some hf
 rw[Nat.zero_add] at h1
 subst h1
 rw[ho] at h2
 cases h2
 exact .inl ⟨i,_,v,ho,not_LP hL h3,h4,deps_LP hL h5,hv,h (i::L) (LP_ins hL i)⟩
theorem dr_adv2 {m2:Nat} (hm:memN m ex=true) (h2:m+1=m2) (h:(DrP P G T own all) n m2 ex env H K):(DrP P G T own all) n m ex env H K:=dr_adv hm (h2 ▸ h)
theorem sg_q (hv:qv G T own env H (some d) ty op=some v) (h:(DrP P G T own all) n m ex ((d,v)::env) H K):(StG P G T own all) n m ex ⟨some d,op,ty,pos,after,none⟩ env H K:=⟨v,hv,h⟩
theorem sg_run {dj:Nat} {want:Bool} (h1:(all[j]?).bind (·.dst)=some dj) (h2:look env dj=some (.bool want)) (hv:qv G T own env H (some d) ty op=some v) (h:(DrP P G T own all) n m ex ((d,v)::env) H K):(StG P G T own all) n m ex ⟨some d,op,ty,pos,after,some (j,want)⟩ env H K:=
 ⟨v,by simp only[qg,h1,ob_some,h2,asG,beq_self_eq_true,bb_true];exact hv,h⟩
theorem sg_skip {dj:Nat} {want:Bool} {u:SV} {b:Option Bool} (h1:(all[j]?).bind (·.dst)=some dj) (h2:look env dj=some u) (h3:asG u=some b) (hb:(b==some want)=false) (h:(DrP P G T own all) n m ex ((d,.undef)::env) H K):(StG P G T own all) n m ex ⟨some d,op,ty,pos,after,some (j,want)⟩ env H K:=
 ⟨.undef,by simp only[qg,h1,ob_some,h2,h3,hb,bb_false],h⟩
theorem sg_M1 {dj:Nat} {want b:Bool} (h1:(all[j]?).bind (·.dst)=some dj) (h2:look env dj=some (.bool b)) (hv:b=want→qv G T own env H (some d) ty op=some v) (h:(DrP P G T own all) n m ex ((d,gv b want v)::env) H K):(StG P G T own all) n m ex ⟨some d,op,ty,pos,after,some (j,want)⟩ env H K:=by
 by_cases hw:b=want
 ·subst hw
  rw[gv_self] at h
  exact sg_run h1 h2 (hv rfl) h
 ·have e:gv b want v= .undef:=by cases b<;>cases want<;>first|rfl|exact(hw rfl).elim
  rw[e] at h
  exact sg_skip h1 h2 rfl (by cases b<;>cases want<;>first|rfl|exact(hw rfl).elim) h
theorem sg_M2 {dj:Nat} {want b b1 w1:Bool} (h1:(all[j]?).bind (·.dst)=some dj) (h2:look env dj=some (gv b1 w1 (.bool b))) (hv:b1=w1→b=want→qv G T own env H (some d) ty op=some v) (h:(DrP P G T own all) n m ex ((d,gv b1 w1 (gv b want v))::env) H K):(StG P G T own all) n m ex ⟨some d,op,ty,pos,after,some (j,want)⟩ env H K:=by
 by_cases hw:b1=w1
 ·subst hw
  rw[gv_self] at h h2
  exact sg_M1 h1 h2 (hv rfl) h
 ·have e:∀ x,gv b1 w1 x= .undef:=fun x=>by cases b1<;>cases w1<;>first|rfl|exact(hw rfl).elim
  rw[e] at h h2
  exact sg_skip h1 h2 rfl rfl h
theorem sg_M3 {dj:Nat} {want b b1 w1 b2 w2:Bool} (h1:(all[j]?).bind (·.dst)=some dj) (h2:look env dj=some (gv b1 w1 (gv b2 w2 (.bool b)))) (hv:b1=w1→b2=w2→b=want→qv G T own env H (some d) ty op=some v) (h:(DrP P G T own all) n m ex ((d,gv b1 w1 (gv b2 w2 (gv b want v)))::env) H K):(StG P G T own all) n m ex ⟨some d,op,ty,pos,after,some (j,want)⟩ env H K:=by
 by_cases hw:b1=w1
 ·subst hw
  rw[gv_self] at h h2
  exact sg_M2 h1 h2 (hv rfl) h
 ·have e:∀ x,gv b1 w1 x= .undef:=fun x=>by cases b1<;>cases w1<;>first|rfl|exact(hw rfl).elim
  rw[e] at h h2
  exact sg_skip h1 h2 rfl rfl h
theorem StG.eqE (he:EqE env env2):(StG P G T own all) n m ex o env H (fun env H=>(Out P G T own nt ρ C rs R) k .normal env H)→(StG P G T own all) n m ex o env2 H (fun env H=>(Out P G T own nt ρ C rs R) k .normal env H):=fun⟨v,h1,h2⟩=>
 ⟨v,by rw[← qg_congr (env:=env) (env2:=env2) (fun t _=>he t)];exact h1,fun L hL=>Dr.eqE (K:=(fun env H=>(Out P G T own nt ρ C rs R) k .normal env H)) (fun a b H he hk=>Out.eqE (k:=k) he hk) (he.put _ _) (h2 L hL)⟩
theorem sg_B {dj:Nat} {want b:Bool} (h1:(all[j]?).bind (·.dst)=some dj) (h2:look env dj=some (.bool b)) (h:b=true→(StG P G T own all) n m ex ⟨some d,op,ty,pos,after,some (j,want)⟩ ((dj,.bool true)::env) H (fun env H=>(Out P G T own nt ρ C rs R) k .normal env H)) (h':b=false→(StG P G T own all) n m ex ⟨some d,op,ty,pos,after,some (j,want)⟩ ((dj,.bool false)::env) H (fun env H=>(Out P G T own nt ρ C rs R) k .normal env H)):(StG P G T own all) n m ex ⟨some d,op,ty,pos,after,some (j,want)⟩ env H (fun env H=>(Out P G T own nt ρ C rs R) k .normal env H):=by
 cases b with
 |true=>exact StG.eqE (EqE.shadow h2) (h rfl)
 |false=>exact StG.eqE (EqE.shadow h2) (h' rfl)
theorem sg_D {dj:Nat} {want:Bool} {a:Prop} {inst:Decidable a} (h1:(all[j]?).bind (·.dst)=some dj) (h2:look env dj=some (.bool (decide a))) (h:a→(StG P G T own all) n m ex ⟨some d,op,ty,pos,after,some (j,want)⟩ ((dj,.bool true)::env) H (fun env H=>(Out P G T own nt ρ C rs R) k .normal env H)) (h':¬ a→(StG P G T own all) n m ex ⟨some d,op,ty,pos,after,some (j,want)⟩ ((dj,.bool false)::env) H (fun env H=>(Out P G T own nt ρ C rs R) k .normal env H)):(StG P G T own all) n m ex ⟨some d,op,ty,pos,after,some (j,want)⟩ env H (fun env H=>(Out P G T own nt ρ C rs R) k .normal env H):=
 sg_B h1 h2 (fun e=>h (of_decide_eq_true e)) (fun e=>h' (of_decide_eq_false e))
def Ld (P:Program) (G:Gl) (T:Tab) (own:List Nat) (all:List Oper) (n m:Nat) (ex:List Nat) (j:Nat) (o:Oper) (env:Env) (H:List Blk) (K:Env→List Blk→Prop):Prop:=
 exG P G T own all o env H fun x H'=>AgP G T own all j m ex (putE o.dst x env) H'∧DrP P G T own all n m (j::ex) (putE o.dst x env) H' K
theorem dr_L1 (hf:firstQP own m ex 0 all=none) (hr:readyP m ex 0 all=[j]) (ho:all[j]? =some o) (h:(Ld P G T own all) n m ex j o env H K):(DrP P G T own all) (n+1) m ex env H K:=dr_l1 hf hr ho h
theorem dr_L2 {j2:Nat} {o2:Oper} (hf:firstQP own m ex 0 all=none) (hr:readyP m ex 0 all=[j,j2]) (ho:all[j]? =some o) (ho2:all[j2]? =some o2) (h:(Ld P G T own all) n m ex j o env H K) (h2:(Ld P G T own all) n m ex j2 o2 env H K):(DrP P G T own all) (n+1) m ex env H K:=dr_l2 hf hr ho ho2 h h2
variable {i0:Nat}
theorem Ld.eqE (he:EqE env env2):(Ld P G T own all) n m ex i0 o env H (fun env H=>(Out P G T own nt ρ C rs R) k .normal env H)→(Ld P G T own all) n m ex i0 o env2 H (fun env H=>(Out P G T own nt ρ C rs R) k .normal env H):=fun h=>
 exG_congr (fun t _=>he t) (exG_mono (fun x H' hx=>⟨by
  have h1:=hx.1
  unfold AgP at h1 ⊢
  revert h1
  generalize agR own all (getL (clo all) i0) m++agL own all (getL (clo all) i0) ex=l
  intro h1
  induction l with
  |nil=>trivial
  |cons a l ih=>
   obtain⟨⟨o',h2,h3⟩,h4⟩:=h1
   refine⟨⟨o',h2,?_⟩,ih h4⟩
   rw[← qg_congr (env:=putE o.dst x env) (env2:=putE o.dst x env2) (fun t _=>(he.put _ _) t),h3]
   cases o'.dst with
   |none=>rfl
   |some d=>exact(he.put _ _) d,fun L hL=>Dr.eqE (K:=(fun env H=>(Out P G T own nt ρ C rs R) k .normal env H)) (fun a b H he hk=>Out.eqE (k:=k) he hk) (he.put _ _) (hx.2 L hL)⟩) h)
theorem ld_go {dst:Option Nat} (h:exG P G T own all ⟨dst,op,ty,pos,after,none⟩ env H fun x H'=>AgP G T own all i0 m ex (putE dst x env) H'∧(DrP P G T own all) n m (i0::ex) (putE dst x env) H' K):(Ld P G T own all) n m ex i0 ⟨dst,op,ty,pos,after,none⟩ env H K:=h
theorem ld_run {dst:Option Nat} {dj:Nat} {want:Bool} (h1:(all[j]?).bind (·.dst)=some dj) (h2:look env dj=some (.bool want)) (h:exG P G T own all ⟨dst,op,ty,pos,after,none⟩ env H fun x H'=>AgP G T own all i0 m ex (putE dst x env) H'∧(DrP P G T own all) n m (i0::ex) (putE dst x env) H' K):(Ld P G T own all) n m ex i0 ⟨dst,op,ty,pos,after,some (j,want)⟩ env H K:=xg_run h1 h2 h
theorem ld_skip {dst:Option Nat} {dj:Nat} {want:Bool} {u:SV} {bo:Option Bool} (h1:(all[j]?).bind (·.dst)=some dj) (h2:look env dj=some u) (h3:asG u=some bo) (hb:(bo==some want)=false) (h:AgP G T own all i0 m ex (putE dst .undef env) H∧(DrP P G T own all) n m (i0::ex) (putE dst .undef env) H K):(Ld P G T own all) n m ex i0 ⟨dst,op,ty,pos,after,some (j,want)⟩ env H K:=xg_skip h1 h2 h3 hb h
theorem ld_X {dst:Option Nat} {dj:Nat} {want b1 w1:Bool} {u:SV} (h1:(all[j]?).bind (·.dst)=some dj) (h2:look env dj=some (gv b1 w1 u)) (h:∀ c,b1=c→(Ld P G T own all) n m ex i0 ⟨dst,op,ty,pos,after,some (j,want)⟩ env H K):(Ld P G T own all) n m ex i0 ⟨dst,op,ty,pos,after,some (j,want)⟩ env H K:=h _ rfl
theorem ld_B {dst:Option Nat} {dj:Nat} {want b:Bool} (h1:(all[j]?).bind (·.dst)=some dj) (h2:look env dj=some (.bool b)) (h:b=true→(Ld P G T own all) n m ex i0 ⟨dst,op,ty,pos,after,some (j,want)⟩ ((dj,.bool true)::env) H (fun env H=>(Out P G T own nt ρ C rs R) k .normal env H)) (h':b=false→(Ld P G T own all) n m ex i0 ⟨dst,op,ty,pos,after,some (j,want)⟩ ((dj,.bool false)::env) H (fun env H=>(Out P G T own nt ρ C rs R) k .normal env H)):(Ld P G T own all) n m ex i0 ⟨dst,op,ty,pos,after,some (j,want)⟩ env H (fun env H=>(Out P G T own nt ρ C rs R) k .normal env H):=by
 cases b with
 |true=>exact Ld.eqE (EqE.shadow h2) (h rfl)
 |false=>exact Ld.eqE (EqE.shadow h2) (h' rfl)
theorem ld_D {dst:Option Nat} {dj:Nat} {want:Bool} {a:Prop} {inst:Decidable a} (h1:(all[j]?).bind (·.dst)=some dj) (h2:look env dj=some (.bool (decide a))) (h:a→(Ld P G T own all) n m ex i0 ⟨dst,op,ty,pos,after,some (j,want)⟩ ((dj,.bool true)::env) H (fun env H=>(Out P G T own nt ρ C rs R) k .normal env H)) (h':¬ a→(Ld P G T own all) n m ex i0 ⟨dst,op,ty,pos,after,some (j,want)⟩ ((dj,.bool false)::env) H (fun env H=>(Out P G T own nt ρ C rs R) k .normal env H)):(Ld P G T own all) n m ex i0 ⟨dst,op,ty,pos,after,some (j,want)⟩ env H (fun env H=>(Out P G T own nt ρ C rs R) k .normal env H):=
 ld_B h1 h2 (fun e=>h (of_decide_eq_true e)) (fun e=>h' (of_decide_eq_false e))
end
end
section
abbrev Keep:=List (Nat×Nat)
mutual
inductive Frz (H:List Blk) (n:Nat) (ks:Keep):SV→SV→Prop
 |same (x:SV) (h:x.under n=true):Frz H n ks x x
 |sl (id g off len sz:Nat) (vals ys:List SV) (hb:H[id]? =some (.cells g sz vals)) (hn:n≤id) (hk:∀ p∈ks,p.1≠id) (h:FrzL H n ks ((vals.drop off).take len) ys):Frz H n ks (.sl id g off len) (.list sz ys)
 |keepSl (i id d g off len sz:Nat) (vals:List SV) (hi:ks[i]? =some (id,d)) (hb:H[id]? =some (.cells g sz vals)) (hd:d≤off):Frz H n ks (.sl id g off len) (.sl (n+i) 0 (off - d) len)
 |keepPtr (i id d g j o sz:Nat) (vals:List SV) (hi:ks[i]? =some (id,d)) (hb:H[id]? =some (.cells g sz vals)) (hd:d≤j):Frz H n ks (.ptr id g j o) (.ptr (n+i) 0 (j - d) o)
 |keepMap (i id d:Nat) (kd:Option IntKind) (es:List (SV×SV)) (hi:ks[i]? =some (id,d)) (hb:H[id]? =some (.map kd es)):Frz H n ks (.map id) (.map (n+i))
 |nil (sz:Nat):Frz H n ks .nil (.list sz [])
 |agg (xs ys:List SV) (h:FrzL H n ks xs ys):Frz H n ks (.agg xs) (.agg ys)
 |tuple (xs ys:List SV) (h:FrzL H n ks xs ys):Frz H n ks (.tuple xs) (.tuple ys)
 |list (sz:Nat) (xs ys:List SV) (h:FrzL H n ks xs ys):Frz H n ks (.list sz xs) (.list sz ys)
 |ptr (id g j sz:Nat) (vals:List SV) (x y:SV) (hb:H[id]? =some (.cells g sz vals)) (hn:n≤id) (hk:∀ p∈ks,p.1≠id) (hx:vals[j]? =some x) (h:Frz H n ks x y):Frz H n ks (.ptr id g j 0) (.pto y)
 |fn (f:Fn) (xs ys us vs:List SV) (h1:FrzL H n ks xs us) (h2:FrzL H n ks ys vs):Frz H n ks (.fn f xs ys) (.fn f us vs)
inductive FrzL (H:List Blk) (n:Nat) (ks:Keep):List SV→List SV→Prop
 |nil:FrzL H n ks [] []
 |cons (x y:SV) (xs ys:List SV) (h:Frz H n ks x y) (t:FrzL H n ks xs ys):FrzL H n ks (x::xs) (y::ys)
end
theorem FrzL.same {H:List Blk} {n:Nat} {ks:Keep}:∀ {xs:List SV},SV.underL n xs=true→FrzL H n ks xs xs
 |[],_=> .nil
 |x::xs,h=>by
  simp only[SV.underL,Bool.and_eq_true] at h
  exact .cons _ _ _ _ (.same _ h.1) (FrzL.same h.2)
theorem FrzL.map {α:Type} {H:List Blk} {n:Nat} {ks:Keep} {f g:α→SV}:∀ {l:List α},(∀ a∈l,Frz H n ks (f a) (g a))→FrzL H n ks (l.map f) (l.map g)
 |[],_=> .nil
 |x::xs,h=> .cons _ _ _ _ (h x (by simp)) (FrzL.map fun a ha=>h a (by simp[ha]))
theorem FrzL.length {H:List Blk} {n:Nat} {ks:Keep}:∀ {xs ys:List SV},FrzL H n ks xs ys→ys.length=xs.length
 |[],ys,h=>by cases h;rfl
 |x::xs,ys,h=>by cases h;rename_i h1 h2;simp[FrzL.length h2]
theorem FrzL.drop {H:List Blk} {n:Nat} {ks:Keep}:∀ {xs ys:List SV} (d:Nat),FrzL H n ks xs ys→FrzL H n ks (xs.drop d) (ys.drop d)
 |[],ys,d,h=>by cases h;simpa using FrzL.nil
 |x::xs,ys,0,h=>h
 |x::xs,ys,d+1,h=>by cases h;rename_i h1 h2;exact FrzL.drop d h2
inductive FrzE (H:List Blk) (n:Nat) (ks:Keep):List (SV×SV)→List (SV×SV)→Prop
 |nil:FrzE H n ks [] []
 |cons (k x y:SV) (xs ys:List (SV×SV)) (hk:k.under n=true) (h:Frz H n ks x y) (t:FrzE H n ks xs ys):FrzE H n ks ((k,x)::xs) ((k,y)::ys)
theorem FrzE.keys {H:List Blk} {n:Nat} {ks:Keep} {kd:Option IntKind}:∀ {xs ys:List (SV×SV)},FrzE H n ks xs ys→(∀ p∈xs,keyIs kd p.1=true)→∀ p∈ys,keyIs kd p.1=true
 |[],ys,h,hk,p,hp=>by cases h;cases hp
 |(k,x)::xs,ys,h,hk,p,hp=>by
  cases h
  rename_i y ys h1 h2 h3
  rcases List.mem_cons.1 hp with rfl|hp
  ·exact hk (k,x) (List.mem_cons_self ..)
  ·exact FrzE.keys h3 (fun q hq=>hk q (List.mem_cons_of_mem _ hq)) p hp
inductive KeepB (H:List Blk) (n:Nat) (ks:Keep):Keep→List Blk→Prop
 |nil:KeepB H n ks [] []
 |cells (id d g sz:Nat) (vals ys:List SV) (r:Keep) (bs:List Blk) (hb:H[id]? =some (.cells g sz vals)) (hn:n≤id) (hd:d≤vals.length) (hv:FrzL H n ks (vals.drop d) ys) (t:KeepB H n ks r bs):KeepB H n ks ((id,d)::r) (.cells 0 sz ys::bs)
 |map (id:Nat) (kd:Option IntKind) (es fs:List (SV×SV)) (r:Keep) (bs:List Blk) (hb:H[id]? =some (.map kd es)) (hn:n≤id) (hv:FrzE H n ks es fs) (t:KeepB H n ks r bs):KeepB H n ks ((id,0)::r) (.map kd fs::bs)
theorem KeepB.get {H:List Blk} {n:Nat} {ks:Keep}:∀ {r:Keep} {bs:List Blk},KeepB H n ks r bs→∀ {i id d:Nat},r[i]? =some (id,d)→n≤id∧
 ((∃ g sz vals ys,H[id]? =some (.cells g sz vals)∧d≤vals.length∧FrzL H n ks (vals.drop d) ys∧bs[i]? =some (.cells 0 sz ys))∨(∃ kd es fs,d=0∧H[id]? =some (.map kd es)∧FrzE H n ks es fs∧bs[i]? =some (.map kd fs)))
 |[],bs,h,i,id,d,hi=>by simp at hi
 |p::r,bs,h,i,id,d,hi=>by
  cases h with
  |cells id' d' g sz vals ys r bs hb hn hd hv t=>
   cases i with
   |zero=>simp at hi;obtain⟨rfl,rfl⟩:=hi;exact⟨hn,.inl ⟨g,sz,vals,ys,hb,hd,hv,rfl⟩⟩
   |succ i=>simpa using t.get (i:=i) (by simpa using hi)
  |map id' kd es fs r bs hb hn hv t=>
   cases i with
   |zero=>simp at hi;obtain⟨rfl,rfl⟩:=hi;exact⟨hn,.inr ⟨kd,es,fs,rfl,hb,hv,rfl⟩⟩
   |succ i=>simpa using t.get (i:=i) (by simpa using hi)
theorem KeepB.length {H:List Blk} {n:Nat} {ks:Keep}:∀ {r:Keep} {bs:List Blk},KeepB H n ks r bs→bs.length=r.length
 |[],bs,h=>by cases h;rfl
 |p::r,bs,h=>by cases h<;>(rename_i t;simp[t.length])
section
variable {P:Program} {G:Gl} {T:Tab} {own:List Nat} {nt B:Nat} {ρ:Option Nat} {C:Cx} {rs:List ResultVar} {R:SV→List Blk→Prop} {env env2:Env} {H X KB:List Blk} {ks:Keep}
def szOf:Blk→Nat
 | .cells _ sz _=>sz
 |_=>0
def thK (θ:Nat→Option (Nat×Nat)) (Hall:List Blk) (n:Nat) (ks:Keep) (i:Nat):Option (Nat×Nat):=
 if i<n then θ i else match ks[i - n]? with
  |some (id,d)=>(θ id).map fun p=>(p.1,p.2+d*((Hall[id]?).map szOf).getD 0)
  |none=>none
theorem thK_lt {θ:Nat→Option (Nat×Nat)} {Hall:List Blk} {n i:Nat} (h:i<n):thK θ Hall n ks i=θ i:=if_pos h
theorem thK_ge {θ:Nat→Option (Nat×Nat)} {Hall:List Blk} {n i id d:Nat} (h:ks[i]? =some (id,d)):thK θ Hall n ks (n+i)=(θ id).map fun p=>(p.1,p.2+d*((Hall[id]?).map szOf).getD 0):=by
 unfold thK
 rw[if_neg (by omega),Nat.add_sub_cancel_left,h]
structure KeepOK (H X KB:List Blk) (ks:Keep):Prop where
 kb:KeepB (H++X) H.length ks ks KB
 nd:(ks.map (·.1)).Nodup
theorem KeepOK.inj (hk:KeepOK H X KB ks) {i j id d d':Nat} (h1:ks[i]? =some (id,d)) (h2:ks[j]? =some (id,d')):i=j:=by
 have e1:(ks.map (·.1))[i]? =some id:=by rw[List.getElem?_map,h1];rfl
 have e2:(ks.map (·.1))[j]? =some id:=by rw[List.getElem?_map,h2];rfl
 obtain⟨l1,e1⟩:=List.getElem?_eq_some_iff.1 e1
 obtain⟨l2,e2⟩:=List.getElem?_eq_some_iff.1 e2
 exact(List.getElem_inj hk.nd).1 (e1.trans e2.symm)
theorem own_keep {θ:Nat→Option (Nat×Nat)} {w:World} (hk:KeepOK H X KB ks) {b:Nat} (h:Cx.own ⟨thK θ (H++X) H.length ks,H++KB,w⟩ b):∃ id o,Cx.live ⟨θ,H++X,w⟩ id∧θ id=some (b,o)∧(id<H.length∨∃ p∈ks,p.1=id):=by
 obtain⟨id,o,⟨B,hB,hl⟩,ht⟩:=h
 have hB:(H++KB)[id]? =some B:=hB
 have ht:thK θ (H++X) H.length ks id=some (b,o):=ht
 by_cases hlt:id<H.length
 ·rw[thK_lt hlt] at ht
  refine⟨id,o,⟨B,?_,hl⟩,ht,.inl hlt⟩
  show(H++X)[id]? =some B
  rw[List.getElem?_append_left hlt] at hB ⊢;exact hB
 ·obtain⟨i,rfl⟩:∃ i,id=H.length+i:=⟨id - H.length,by omega⟩
  rw[List.getElem?_append_right (by omega),Nat.add_sub_cancel_left] at hB
  have hi:i<ks.length:=by rw[← hk.kb.length];exact(List.getElem?_eq_some_iff.1 hB).1
  obtain⟨⟨id',d⟩,hid⟩:∃ p,ks[i]? =some p:=⟨ks[i],List.getElem?_eq_getElem hi⟩
  rw[thK_ge hid] at ht
  cases hth:θ id' with
  |none=>rw[hth] at ht;cases ht
  |some p=>
   rw[hth] at ht
   obtain⟨b',o'⟩:=p
   simp at ht
   obtain⟨rfl,_⟩:=ht
   refine⟨id',o',?_,hth,.inr ⟨_,List.mem_of_getElem? hid,rfl⟩⟩
   obtain⟨_,h|h⟩:=hk.kb.get hid
   ·obtain⟨g,sz,vals,ys,h1,_⟩:=h;exact⟨_,h1,rfl⟩
   ·obtain⟨kd,es,fs,_,h1,_⟩:=h;exact⟨_,h1,rfl⟩
theorem imm_keep {θ:Nat→Option (Nat×Nat)} {w:World} (hk:KeepOK H X KB ks) {b:Nat} (h:Cx.imm ⟨θ,H++X,w⟩ b):Cx.imm ⟨thK θ (H++X) H.length ks,H++KB,w⟩ b:=
 ⟨h.1,fun ho=>by
  obtain⟨id,o,h1,h2,_⟩:=own_keep hk ho
  exact h.2 ⟨id,o,h1,h2⟩⟩
theorem imm_lost {θ:Nat→Option (Nat×Nat)} {w:World} (hc:HeapOK ⟨θ,H++X,w⟩) (hk:KeepOK H X KB ks) {id g sz b o:Nat} {vals:List SV} (hb:(H++X)[id]? =some (.cells g sz vals)) (hn:H.length≤id) (hno:∀ p∈ks,p.1≠id) (ht:θ id=some (b,o)):
 Cx.imm ⟨thK θ (H++X) H.length ks,H++KB,w⟩ b:=by
 refine⟨BlkRep.lt (hc.blk id _ hb) rfl ht,fun ho=>?_⟩
 obtain⟨id',o',h1,h2,h3⟩:=own_keep hk ho
 have:=hc.inj id id' b o o' ⟨_,hb,rfl⟩ h1 ht h2
 subst this
 rcases h3 with h3|⟨p,hp,h3⟩
 ·omega
 ·exact hno p hp h3
theorem Rep.keep_both {θ:Nat→Option (Nat×Nat)} {w:World} (hk:KeepOK H X KB ks):(∀ x v,Rep ⟨θ,H++X,w⟩ x v→x.under H.length=true→Rep ⟨thK θ (H++X) H.length ks,H++KB,w⟩ x v)∧
 (∀ xs vs,RepL ⟨θ,H++X,w⟩ xs vs→SV.underL H.length xs=true→RepL ⟨thK θ (H++X) H.length ks,H++KB,w⟩ xs vs):=by
 have hget:∀ id:Nat,decide (id<H.length)=true→(H++X)[id]? =H[id]? ∧(H++KB)[id]? =H[id]? ∧thK θ (H++X) H.length ks id=θ id:=fun id h=>by
  have h:id<H.length:=by simpa using h
  exact⟨List.getElem?_append_left h,List.getElem?_append_left h,thK_lt h⟩
 apply SV.both
 ·intro x h1 h2 h3 h4 h5 h6 v h hb
  cases x with
  |agg fs=>exact absurd rfl (h1 fs)
  |list n xs=>exact absurd rfl (h2 n xs)
  |pto y=>exact absurd rfl (h3 y)
  |fn f a b=>exact absurd rfl (h4 f a b)
  |tuple xs=>exact absurd rfl (h5 xs)
  |imap b clk born kd ks vs=>exact absurd rfl (h6 b clk born kd ks vs)
  |ptr id g i off=>obtain⟨e1,e2,e3⟩:=hget id hb;simp only[Rep,e1,e2,e3] at h ⊢;exact h
  |sl id g off len=>obtain⟨e1,e2,e3⟩:=hget id hb;simp only[Rep,e1,e2,e3] at h ⊢;exact h
  |map id=>obtain⟨e1,e2,e3⟩:=hget id hb;simp only[Rep,e1,e2,e3] at h ⊢;exact h
  |it id=>obtain⟨e1,e2,e3⟩:=hget id hb;simp only[Rep,e1,e2,e3] at h ⊢;exact h
  |_=>exact h
 ·intro fs ih v h hb
  simp only[Rep] at h ⊢
  obtain⟨vs,h1,h2⟩:=h
  exact⟨vs,ih vs h1 hb,h2⟩
 ·intro sz xs ih v h hb
  simp only[Rep] at h ⊢
  obtain⟨a,cap,h0,h1,h2,h3⟩:=h
  refine⟨a,cap,h0,h1,h2,?_⟩
  rcases h3 with h3|⟨b,o,vs,h3,h4,h5,h6,h7⟩
  ·exact .inl h3
  ·exact .inr ⟨b,o,vs,h3,ih vs h4 hb,h5,h6,imm_keep hk h7⟩
 ·intro x ih v h hb
  simp only[Rep] at h ⊢
  obtain⟨b,o,u,h0,h1,h2,h3,h4⟩:=h
  exact⟨b,o,u,h0,ih u h1 hb,h2,h3,imm_keep hk h4⟩
 ·intro f xs ys ih1 ih2 v h hb
  simp only[SV.under,Bool.and_eq_true] at hb
  simp only[Rep] at h ⊢
  obtain⟨us,vs,h0,h1,h2⟩:=h
  exact⟨us,vs,ih1 us h0 hb.1,ih2 vs h1 hb.2,h2⟩
 ·intro xs ih v h hb
  simp only[Rep] at h ⊢
  obtain⟨vs,h0,h1⟩:=h
  exact⟨vs,ih vs h0 hb,h1⟩
 ·intro b clk born kd ks vs ih1 ih2 v h hb
  simp only[SV.under,Bool.and_eq_true] at hb
  simp only[Rep] at h ⊢
  obtain⟨h0,h1,ents,h2,h3,h4,h5,h6,h7⟩:=h
  exact⟨h0,imm_keep hk h1,ents,h2,h3,h4,ih1 _ h5 hb.1,ih2 _ h6 hb.2,h7⟩
 ·intro vs h _;simpa [RepL] using h
 ·intro x xs ih1 ih2 vs h hb
  simp only[SV.underL,Bool.and_eq_true] at hb
  obtain⟨u,us,h1,h2,h3⟩:=RepL.cons_iff.1 h
  exact RepL.cons_iff.2 ⟨u,us,ih1 u h1 hb.1,ih2 us h2 hb.2,h3⟩
theorem Frz.rep {θ:Nat→Option (Nat×Nat)} {w:World} (hc:HeapOK ⟨θ,H++X,w⟩) (hk:KeepOK H X KB ks):(∀ {x y:SV},Frz (H++X) H.length ks x y→∀ v,Rep ⟨θ,H++X,w⟩ x v→Rep ⟨thK θ (H++X) H.length ks,H++KB,w⟩ y v)∧
 (∀ {xs ys:List SV},FrzL (H++X) H.length ks xs ys→∀ vs,RepL ⟨θ,H++X,w⟩ xs vs→RepL ⟨thK θ (H++X) H.length ks,H++KB,w⟩ ys vs):=by
 have main:∀ {x y:SV},Frz (H++X) H.length ks x y→∀ v,Rep ⟨θ,H++X,w⟩ x v→Rep ⟨thK θ (H++X) H.length ks,H++KB,w⟩ y v:=by
  intro x y h
  refine Frz.rec (motive_1:=fun x y _=>∀ v,Rep ⟨θ,H++X,w⟩ x v→Rep ⟨thK θ (H++X) H.length ks,H++KB,w⟩ y v) (motive_2:=fun xs ys _=>∀ vs,RepL ⟨θ,H++X,w⟩ xs vs→RepL ⟨thK θ (H++X) H.length ks,H++KB,w⟩ ys vs) ?_ ?_ ?_ ?_ ?_ ?_ ?_ ?_ ?_ ?_ ?_ ?_ ?_ h
  ·intro x hx v hv;exact(Rep.keep_both hk).1 _ _ hv hx
  ·intro id g off len sz vals ys hb hn hno hf ih v hv
   simp only[Rep,hb] at hv
   obtain⟨_,hv⟩:=hv
   rcases hv with hv|⟨_,h1,a,cap,rfl,h2,h3,h4⟩
   ·exact absurd hv (Nat.lt_irrefl _)
   ·have hbk:=hc.blk id _ hb
    rcases hbk with⟨_,rfl⟩|⟨b,o,cs,T',fr,vs,k1,k2,k3,k4,k5,k6⟩
    ·have:ys=[]:=by
      simp at hf
      cases hf
      rfl
     subst this
     have hlen:len=0:=by simp at h1;omega
     subst hlen
     simp only[Rep]
     exact⟨a,cap,rfl,Nat.zero_le _,h3,by simp⟩
    ·have hr:=ih _ ((k4.drop off).take len)
     have hl:ys.length=len:=by
      rw[← hr.length,List.length_take,List.length_drop,k4.length];omega
     simp only[Rep]
     refine⟨a,cap,by rw[hl],by omega,h3,?_⟩
     rcases h4 with h4|⟨b',o',cs',T2,fr2,e1,e2,e3,e4⟩
     ·left
      have:len=0:=by omega
      rw[← List.length_eq_zero_iff];omega
     ·have:(b',o')=(b,o):=by have:=e1.symm.trans k1;simpa using this
      cases this
      right
      refine⟨b,o+off*sz,_,e2,hr,fun u hu=>k5 u (List.mem_of_mem_drop (List.mem_of_mem_take hu)),?_,imm_lost hc hk hb hn hno k1⟩
      exact rangeAt_take (rangeAt_drop k6 (fun u hu=>(k5 u hu).1) off (by rw[k4.length];omega)) len
  ·intro i id d g off len sz vals hi hb hd v hv
   simp only[Rep,hb] at hv
   obtain⟨h0,hv⟩:=hv
   rcases hv with hv|⟨_,h1,a,cap,rfl,h2,h3,h4⟩
   ·exact absurd hv (Nat.lt_irrefl _)
   ·obtain⟨hn,hg|hg⟩:=hk.kb.get hi
    ·obtain⟨g',sz',vals',ys,e1,e2,e3,e4⟩:=hg
     rw[hb] at e1
     cases e1
     have hB:(H++KB)[H.length+i]? =some (.cells 0 sz ys):=by rw[List.getElem?_append_right (by omega),Nat.add_sub_cancel_left];exact e4
     simp only[Rep,hB]
     have hyl:=e3.length
     rw[List.length_drop] at hyl
     obtain⟨k,rfl⟩:∃ k,off=d+k:=⟨off - d,by omega⟩
     rw[Nat.add_sub_cancel_left]
     refine⟨h0,.inr ⟨trivial,by omega,a,cap,rfl,h2,h3,?_⟩⟩
     rcases h4 with h4|⟨b',o',cs',T2,fr2,q1,q2,q3,q4⟩
     ·exact .inl ⟨h4.1,h4.2.elim (fun h=> .inl h) (fun h=> .inr (by omega))⟩
     ·refine .inr ⟨b',o'+d*sz,cs',T2,fr2,?_,?_,q3,?_⟩
      ·rw[thK_ge hi,q1,hb];rfl
      ·rw[q2,Nat.add_mul,Nat.add_assoc]
      ·rw[← q4,Nat.add_assoc d k cap,Nat.add_mul d];omega
    ·obtain⟨kd,es,fs,_,e1,_⟩:=hg
     rw[hb] at e1;cases e1
  ·intro i id d g j o sz vals hi hb hd v hv
   simp only[Rep,hb] at hv
   obtain⟨h0,hv⟩:=hv
   rcases hv with hv|⟨_,h1,b,oo,h2,h3⟩
   ·exact absurd hv (Nat.lt_irrefl _)
   ·obtain⟨hn,hg|hg⟩:=hk.kb.get hi
    ·obtain⟨g',sz',vals',ys,e1,e2,e3,e4⟩:=hg
     rw[hb] at e1
     cases e1
     have hB:(H++KB)[H.length+i]? =some (.cells 0 sz ys):=by rw[List.getElem?_append_right (by omega),Nat.add_sub_cancel_left];exact e4
     simp only[Rep,hB]
     have hyl:=e3.length
     rw[List.length_drop] at hyl
     refine⟨h0,.inr ⟨trivial,by omega,b,oo+d*sz,?_,?_⟩⟩
     ·rw[thK_ge hi,h2,hb];rfl
     ·rw[h3,show oo+j*sz+o=oo+d*sz+(j - d)*sz+o from by
       have:j=d+(j - d):=by omega
       conv=>lhs;rw[this,Nat.add_mul]
       omega]
    ·obtain⟨kd,es,fs,_,e1,_⟩:=hg
     rw[hb] at e1;cases e1
  ·intro i id d kd es hi hb v hv
   simp only[Rep,hb] at hv
   obtain⟨h0,b,h1,h2⟩:=hv
   obtain⟨hn,hg|hg⟩:=hk.kb.get hi
   ·obtain⟨g',sz',vals',ys,e1,_⟩:=hg
    rw[hb] at e1;cases e1
   ·obtain⟨kd',es',fs,hd0,e1,e2,e4⟩:=hg
    rw[hb] at e1
    cases e1
    have hB:(H++KB)[H.length+i]? =some (.map kd fs):=by rw[List.getElem?_append_right (by omega),Nat.add_sub_cancel_left];exact e4
    simp only[Rep,hB]
    exact⟨h0,b,by rw[thK_ge hi,h1,hd0,Nat.zero_mul];rfl,h2⟩
  ·intro sz v hv
   simp only[Rep] at hv ⊢
   exact⟨none,0,by rw[hv];rfl,Nat.le_refl _,Nat.zero_le _,by simp⟩
  ·intro xs ys hf ih v hv
   simp only[Rep] at hv ⊢
   obtain⟨vs,h1,h2,h3⟩:=hv
   exact⟨vs,ih vs h1,h2,h3⟩
  ·intro xs ys hf ih v hv
   simp only[Rep] at hv ⊢
   obtain⟨vs,h1,h3⟩:=hv
   exact⟨vs,ih vs h1,h3⟩
  ·intro sz xs ys hf ih v hv
   simp only[Rep] at hv ⊢
   obtain⟨a,cap,rfl,h1,h2,h3⟩:=hv
   have hlen:=hf.length
   refine⟨a,cap,by rw[hlen],by omega,h2,?_⟩
   rcases h3 with rfl|⟨b,o,vs,e1,e2,e3,e4,e5⟩
   ·left;exact List.length_eq_zero_iff.1 (by simpa using hlen)
   ·exact .inr ⟨b,o,vs,e1,ih vs e2,e3,e4,imm_keep hk e5⟩
  ·intro id g j sz vals x y hb hn hno hx hf ih v hv
   simp only[Rep,hb] at hv
   obtain⟨_,hv⟩:=hv
   rcases hv with hv|⟨_,h1,b,o,h2,h3⟩
   ·exact absurd hv (Nat.lt_irrefl _)
   ·have hbk:=hc.blk id _ hb
    rcases hbk with⟨hno',_⟩|⟨b',o',cs,T',fr,vs,k1,k2,k3,k4,k5,k6⟩
    ·have hno':θ id=none:=hno'
     rw[hno'] at h2;cases h2
    ·have:(b',o')=(b,o):=by have:=k1.symm.trans h2;simpa using this
     cases this
     obtain⟨u,g1,g2⟩:=k4.get hx
     simp only[Rep]
     refine⟨b,o+j*sz,u,by rw[h3];rfl,ih u g2,(k5 u (List.mem_of_getElem? g1)).2,?_,imm_lost hc hk hb hn hno k1⟩
     exact rangeAt_elem k6 (fun u hu=>(k5 u hu).1) g1
  ·intro f xs ys us vs hx hy ih1 ih2 v hv
   simp only[Rep] at hv ⊢
   obtain⟨asv,bs,h1,h2,h3⟩:=hv
   exact⟨asv,bs,ih1 asv h1,ih2 bs h2,h3⟩
  ·intro vs hv;exact hv
  ·intro x y xs ys hx hxs ih1 ih2 vs hv
   obtain⟨u,us,h1,h2,rfl⟩:=RepL.cons_iff.1 hv
   exact RepL.mk_cons (ih1 u h1) (ih2 us h2)
 refine⟨main,fun {xs}=>?_⟩
 induction xs with
 |nil=>intro ys h vs hv;cases h;exact hv
 |cons x xs ih=>
  intro ys h vs hv
  cases h
  rename_i y ys h1 h2
  obtain⟨u,us,e1,e2,rfl⟩:=RepL.cons_iff.1 hv
  exact RepL.mk_cons (main h1 u e1) (ih h2 us e2)
theorem FrzE.rep {θ:Nat→Option (Nat×Nat)} {w:World} (hc:HeapOK ⟨θ,H++X,w⟩) (hk:KeepOK H X KB ks):∀ {es fs:List (SV×SV)},FrzE (H++X) H.length ks es fs→∀ l,RepE ⟨θ,H++X,w⟩ es l→RepE ⟨thK θ (H++X) H.length ks,H++KB,w⟩ fs l
 |[],fs,h,l,hr=>by cases h;exact hr
 |(k,x)::es,fs,h,l,hr=>by
  cases h
  rename_i y ys h1 h2 h3
  simp only[RepE] at hr ⊢
  obtain⟨e,es',a1,a2,a3,a4⟩:=hr
  exact⟨e,es',(Rep.keep_both hk).1 _ _ a1 h1,(Frz.rep hc hk).1 h2 _ a2,FrzE.rep hc hk h3 _ a3,a4⟩
theorem Cx.keep {θ:Nat→Option (Nat×Nat)} {w:World} (hc:HeapOK ⟨θ,H++X,w⟩) (hk:KeepOK H X KB ks) (hcl:closed H):HeapOK ⟨thK θ (H++X) H.length ks,H++KB,w⟩∧∀ C:Cx,C.H.length≤H.length→Grow C ⟨θ,H++X,w⟩→Grow C ⟨thK θ (H++X) H.length ks,H++KB,w⟩:=by
 refine⟨⟨fun id B hB=>?_,fun i j b o o' hi hj h1 h2=>?_⟩,fun C hC hg=>⟨hg.os,hg.tape,hg.output,hg.size,fun b hb ho=>hg.old b hb ho,hg.shape,fun id B hB=>?_,fun id b o hn hl ht=>?_⟩⟩
 ·have hB:(H++KB)[id]? =some B:=hB
  by_cases hlt:id<H.length
  ·have hB':(H++X)[id]? =some B:=by rw[List.getElem?_append_left hlt] at hB ⊢;exact hB
   have hBH:H[id]? =some B:=by rw[List.getElem?_append_left hlt] at hB;exact hB
   have hb:=hc.blk id B hB'
   have hbel:=hcl B (List.mem_of_getElem? hBH)
   cases B with
   |dead=>trivial
   |obj o=>obtain⟨b,h1,h2⟩:=hb;exact⟨b,(thK_lt hlt).trans h1,h2⟩
   |cells g sz vals=>
    rcases hb with⟨h1,h2⟩|⟨b,o,cs,T,fr,vs,h1,h2,h3,h4,h5,h6⟩
    ·exact .inl ⟨(thK_lt hlt).trans h1,h2⟩
    ·exact .inr ⟨b,o,cs,T,fr,vs,(thK_lt hlt).trans h1,h2,h3,(Rep.keep_both hk).2 _ _ h4 hbel,h5,h6⟩
   |map kd es=>
    obtain⟨b,ents,clk,h1,h2,h3,h4⟩:=hb
    have hE:∀ {es:List (SV×SV)} {l:List MapEntry},RepE ⟨θ,H++X,w⟩ es l→belowE H.length es=true→RepE ⟨thK θ (H++X) H.length ks,H++KB,w⟩ es l:=by
     intro es
     induction es with
     |nil=>intro l h _;exact h
     |cons p es ih=>
      intro l h hb
      obtain⟨q,x⟩:=p
      simp only[RepE] at h ⊢
      simp only[belowE,Bool.and_eq_true] at hb
      obtain⟨e,es',a1,a2,a3,a4⟩:=h
      exact⟨e,es',(Rep.keep_both hk).1 _ _ a1 hb.1.1,(Rep.keep_both hk).1 _ _ a2 hb.1.2,ih a3 hb.2,a4⟩
    exact⟨b,ents,clk,(thK_lt hlt).trans h1,h2,hE h3 hbel,h4⟩
  ·obtain⟨i,rfl⟩:∃ i,id=H.length+i:=⟨id - H.length,by omega⟩
   rw[List.getElem?_append_right (by omega),Nat.add_sub_cancel_left] at hB
   have hi:i<ks.length:=by rw[← hk.kb.length];exact(List.getElem?_eq_some_iff.1 hB).1
   obtain⟨⟨id',d⟩,hid⟩:∃ p,ks[i]? =some p:=⟨ks[i],List.getElem?_eq_getElem hi⟩
   obtain⟨hn,hg|hg⟩:=hk.kb.get hid
   ·obtain⟨g,sz,vals,ys,e1,e2,e3,e4⟩:=hg
    rw[e4] at hB
    cases hB
    rcases hc.blk id' _ e1 with⟨h1,rfl⟩|⟨b,o,cs,T,fr,vs,h1,h2,h3,h4,h5,h6⟩
    ·left
     refine⟨by show thK _ _ _ _ _=none;rw[thK_ge hid,show θ id'=none from h1];rfl,?_⟩
     have:=e3.length
     simp at this
     exact this
    ·right
     refine⟨b,o+d*sz,cs,T,fr,vs.drop d,?_,h2,h3,(Frz.rep hc hk).2 e3 _ (h4.drop d),fun u hu=>h5 u (List.mem_of_mem_drop hu),?_⟩
     ·show thK _ _ _ _ _=_
      rw[thK_ge hid,show θ id'=some (b,o) from h1,e1];rfl
     ·exact rangeAt_drop h6 (fun u hu=>(h5 u hu).1) d (by rw[h4.length];exact e2)
   ·obtain⟨kd,es,fs,rfl,e1,e2,e4⟩:=hg
    rw[e4] at hB
    cases hB
    obtain⟨b,ents,clk,h1,h2,h3,h4,h5⟩:=hc.blk id' _ e1
    refine⟨b,ents,clk,?_,h2,FrzE.rep hc hk e2 _ h3,e2.keys h4,h5⟩
    show thK _ _ _ _ _=_
    rw[thK_ge hid,show θ id'=some (b,0) from h1,Nat.zero_mul];rfl
 ·
  have src:∀ (i b o:Nat),Cx.live ⟨thK θ (H++X) H.length ks,H++KB,w⟩ i→thK θ (H++X) H.length ks i=some (b,o)→∃ id o',Cx.live ⟨θ,H++X,w⟩ id∧θ id=some (b,o')∧((i<H.length∧id=i)∨(H.length≤i∧H.length≤id∧∃ d,ks[i - H.length]? =some (id,d))):=by
   intro i b o ⟨B,hB,hl⟩ ht
   have hB:(H++KB)[i]? =some B:=hB
   by_cases hlt:i<H.length
   ·rw[thK_lt hlt] at ht
    refine⟨i,o,⟨B,?_,hl⟩,ht,.inl ⟨hlt,rfl⟩⟩
    show(H++X)[i]? =some B
    rw[List.getElem?_append_left hlt] at hB ⊢;exact hB
   ·obtain⟨i,rfl⟩:∃ k,i=H.length+k:=⟨i - H.length,by omega⟩
    rw[List.getElem?_append_right (by omega),Nat.add_sub_cancel_left] at hB
    have hi:i<ks.length:=by rw[← hk.kb.length];exact(List.getElem?_eq_some_iff.1 hB).1
    obtain⟨⟨id',d⟩,hid⟩:∃ p,ks[i]? =some p:=⟨ks[i],List.getElem?_eq_getElem hi⟩
    rw[thK_ge hid] at ht
    cases hth:θ id' with
    |none=>rw[hth] at ht;cases ht
    |some p=>
     rw[hth] at ht
     obtain⟨b',o'⟩:=p
     simp at ht
     obtain⟨rfl,_⟩:=ht
     obtain⟨hn,hg⟩:=hk.kb.get hid
     refine⟨id',o',?_,hth,.inr ⟨by omega,hn,d,by rw[Nat.add_sub_cancel_left];exact hid⟩⟩
     rcases hg with⟨g,sz,vals,ys,h1,_⟩|⟨kd,es,fs,_,h1,_⟩
     ·exact⟨_,h1,rfl⟩
     ·exact⟨_,h1,rfl⟩
  obtain⟨id1,o1,l1,t1,c1⟩:=src i b o hi h1
  obtain⟨id2,o2,l2,t2,c2⟩:=src j b o' hj h2
  have:=hc.inj id1 id2 b o1 o2 l1 l2 t1 t2
  subst this
  rcases c1 with⟨c1,e1⟩|⟨c1,e1,d1,f1⟩<;>rcases c2 with⟨c2,e2⟩|⟨c2,e2,d2,f2⟩
  ·omega
  ·omega
  ·omega
  ·have:=hk.inj f1 f2
   omega
 ·obtain⟨B',h1,h2⟩:=hg.ids id B hB
  have hlt:id<H.length:=Nat.lt_of_lt_of_le (List.getElem?_eq_some_iff.1 hB).1 hC
  have h1':(H++X)[id]? =some B':=h1
  refine⟨B',?_,?_⟩
  ·show(H++KB)[id]? =some B'
   rw[List.getElem?_append_left hlt] at h1' ⊢;exact h1'
  ·show Later _ _ (thK _ _ _ _ _) _ _
   rw[thK_lt hlt];exact h2
 ·obtain⟨id',o',h1,h2,h3⟩:=own_keep hk (⟨id,o,hl,ht⟩:Cx.own ⟨thK θ (H++X) H.length ks,H++KB,w⟩ b)
  have hid:C.H[id']? =none:=by
   rcases h3 with h3|⟨p,hp,h3⟩
   ·
    obtain⟨B,hB,hlv⟩:=hl
    by_cases hlt:id<H.length
    ·have ht':θ id=some (b,o):=by rw[← thK_lt (θ:=θ) (ks:=ks) (Hall:=H++X) hlt];exact ht
     have hB':(H++X)[id]? =some B:=by
      have hB0:(H++KB)[id]? =some B:=hB
      rw[List.getElem?_append_left hlt] at hB0 ⊢;exact hB0
     have:=hc.inj id id' b o o' ⟨B,hB',hlv⟩ h1 ht' h2
     rw[← this];exact hn
    ·
     obtain⟨i,rfl⟩:∃ i,id=H.length+i:=⟨id - H.length,by omega⟩
     have hB0:(H++KB)[H.length+i]? =some B:=hB
     rw[List.getElem?_append_right (by omega),Nat.add_sub_cancel_left] at hB0
     have hi:i<ks.length:=by rw[← hk.kb.length];exact(List.getElem?_eq_some_iff.1 hB0).1
     obtain⟨⟨id2,d⟩,hid⟩:∃ p,ks[i]? =some p:=⟨ks[i],List.getElem?_eq_getElem hi⟩
     have ht':thK θ (H++X) H.length ks (H.length+i)=some (b,o):=ht
     rw[thK_ge hid] at ht'
     cases hth:θ id2 with
     |none=>rw[hth] at ht';cases ht'
     |some p=>
      rw[hth] at ht'
      obtain⟨b',o2⟩:=p
      simp at ht'
      obtain⟨rfl,_⟩:=ht'
      obtain⟨hn2,hg2⟩:=hk.kb.get hid
      have hl2:Cx.live ⟨θ,H++X,w⟩ id2:=by
       rcases hg2 with⟨g,sz,vals,ys,q1,_⟩|⟨kd,es,fs,_,q1,_⟩
       ·exact⟨_,q1,rfl⟩
       ·exact⟨_,q1,rfl⟩
      have:=hc.inj id2 id' b' o2 o' hl2 h1 hth h2
      omega
   ·obtain⟨i,hi⟩:=List.getElem?_of_mem hp
    obtain⟨q,d⟩:=p
    simp only at h3
    subst h3
    have:=(hk.kb.get hi).1
    exact List.getElem?_eq_none (by omega)
  exact hg.new id' b o' hid h1 h2
def subEnvF (H:List Blk) (n:Nat) (ks:Keep):Env→Env→Prop
 |[],_=>True
 |(t,y)::r,env=>(∃ x,look env t=some x∧Frz H n ks x y)∧subEnvF H n ks r env
theorem subEnvF.look {H:List Blk} {n:Nat}:∀ {env2 env:Env},subEnvF H n ks env2 env→∀ t y,look env2 t=some y→∃ x,Go.Proofs.YtedejleokilohaaGreatDoor.look env t=some x∧Frz H n ks x y
 |[],_,_,t,y,h=>by cases h
 |(t',y')::r,env,hs,t,y,h=>by
  simp only[Go.Proofs.YtedejleokilohaaGreatDoor.look] at h
  split at h
  ·rename_i e;cases h;subst e;exact hs.1
  ·exact hs.2.look t y h
theorem imm_defs {θ:Nat→Option (Nat×Nat)} {w:World} {a:Act} {B0:Nat} (hk:KeepOK H X KB ks) (hd:DefOK B0 ⟨θ,H++X,w⟩ a.defers):DefOK B0 ⟨thK θ (H++X) H.length ks,H++KB,w⟩ a.defers:=by
 refine⟨fun d hdd=>?_,hd.2⟩
 obtain⟨r,q1,q2,q3,q4⟩:=hd.1 d hdd
 exact⟨r,q1,q2,imm_keep hk q3,q4⟩
theorem Wk.keep (ks:Keep) (KB:List Blk) (hG:GClosed G) (hB:Based G H.length) (hC:C.H.length≤H.length) (hcl:closed H) (hk:KeepOK H X KB ks) (he:subEnvF (H++X) H.length ks env2 env):Wk G nt C ⟨env,H++X⟩ ⟨env2,H++KB⟩:=by
 rintro⟨θ,Hc,w⟩ a hc hi hg
 simp only at hc
 subst hc
 obtain⟨h1,h2⟩:=Cx.keep hi.heap hk hcl
 refine⟨⟨thK θ (H++X) H.length ks,H++KB,w⟩,rfl,rfl,⟨h1,⟨fun p hp=>(Rep.keep_both hk).1 _ _ (hi.glob.1 p hp) ((SV.below_mono_both (Nat.zero_le _)).1 _ (hG p hp)),fun C0 h0=>h2 C0 (hB C0 h0) (hi.glob.2 C0 h0)⟩,hi.size,fun t x hx=>?_,imm_defs hk hi.defs⟩,h2 C hC hg⟩
 obtain⟨y,e1,e2⟩:=he.look t x hx
 exact(Frz.rep hi.heap hk).1 e2 _ (hi.env t y e1)
theorem KeepOK.nil:KeepOK H X [] []:=⟨.nil,List.nodup_nil⟩
theorem Wk.tell (hG:GClosed G) (hB:Based G H.length) (hC:C.H.length≤H.length) (hcl:closed H) (he:subEnvF (H++X) H.length [] env2 env):Wk G nt C ⟨env,H++X⟩ ⟨env2,H⟩:=by
 have:=Wk.keep (nt:=nt) [] [] hG hB hC hcl (KeepOK.nil (H:=H) (X:=X)) he
 rwa[List.append_nil] at this
theorem Fin.keep {R0:SV→List Blk→Prop} {H0:List Blk} (ks:Keep) (KB:List Blk) (hR:Back (∀ y H',R0 y H'→R y H')) (hC:C.H=H0) (hl:H0.length=H.length) (hcl:closed H) (hk:KeepOK H X KB ks) {x y:SV} (hx:Frz (H++X) H.length ks x y) (h:R0 y (H++KB)):Fin C (H++X) x R:=by
 rintro⟨θ,Hc,w⟩ v h1 h2 h3 h4
 simp only at h1
 subst h1
 obtain⟨k1,k2⟩:=Cx.keep h2 hk hcl
 exact⟨⟨thK θ (H++X) H.length ks,H++KB,w⟩,y,rfl,hR _ _ h,k1,(Frz.rep h2 hk).1 hx _ h3,k2 C (by rw[hC,hl];exact Nat.le_refl _) h4⟩
theorem Fin.tell {R0:SV→List Blk→Prop} {H0:List Blk} (hR:Back (∀ y H',R0 y H'→R y H')) (hC:C.H=H0) (hl:H0.length=H.length) (hcl:closed H) {x y:SV} (hx:Frz (H++X) H.length [] x y) (h:R0 y H):Fin C (H++X) x R:=
 Fin.keep [] [] hR hC hl hcl KeepOK.nil hx (by rw[List.append_nil];exact h)
end
section
variable {P:Program} {G:Gl} {T:Tab} {own:List Nat} {nt B:Nat} {ρ:Option Nat} {C:Cx} {rs:List ResultVar} {R:SV→List Blk→Prop} {env env2:Env} {H X KB:List Blk} {ks:Keep}
theorem Wk.keepN (ks:Keep) {n0:Nat} (hG:GClosed G) (hB:Based G C.H.length) (hn:H.length=n0) (hC:C.H.length=n0) (hcl:closed H) (hk:KeepB (H++X) n0 ks ks KB) (hd:(ks.map (·.1)).Nodup) (he:subEnvF (H++X) n0 ks env2 env):Wk G nt C ⟨env,H++X⟩ ⟨env2,H++KB⟩:=by
 subst hn
 exact Wk.keep ks KB hG (hC ▸ hB) (by rw[hC];exact Nat.le_refl _) hcl ⟨hk,hd⟩ he
theorem Fin.keepN {R0:SV→List Blk→Prop} (ks:Keep) {n0:Nat} (hR:Back (∀ y H',R0 y H'→R y H')) (hn:H.length=n0) (hC:C.H.length=n0) (hcl:closed H) {x y:SV} (hk:KeepB (H++X) n0 ks ks KB) (hd:(ks.map (·.1)).Nodup) (hx:Frz (H++X) n0 ks x y) (h:R0 y (H++KB)):Fin C (H++X) x R:=by
 subst hn
 rintro⟨θ,Hc,w⟩ v h1 h2 h3 h4
 simp only at h1
 subst h1
 obtain⟨k1,k2⟩:=Cx.keep h2 ⟨hk,hd⟩ hcl
 exact⟨⟨thK θ (H++X) H.length ks,H++KB,w⟩,y,rfl,hR _ _ h,k1,(Frz.rep h2 ⟨hk,hd⟩).1 hx _ h3,k2 C (by rw[hC];exact Nat.le_refl _) h4⟩
theorem Fin.tellN {R0:SV→List Blk→Prop} {n0:Nat} (hR:Back (∀ y H',R0 y H'→R y H')) (hn:H.length=n0) (hC:C.H.length=n0) (hcl:closed H) {x y:SV} (hx:Frz (H++X) n0 [] x y) (h:R0 y H):Fin C (H++X) x R:=
 Fin.keepN (KB:=[]) [] hR hn hC hcl .nil (by simp) hx (by rw[List.append_nil];exact h)
end
section
variable {H:List Blk} {n:Nat} {kk:Keep}
theorem Frz.kp (i:Nat) {id d g j o sz id' j':Nat} {vals:List SV} (hi:kk[i]? =some (id,d)) (hb:H[id]? =some (.cells g sz vals)) (hd:d≤j) (h1:n+i=id') (h2:j - d=j'):Frz H n kk (.ptr id g j o) (.ptr id' 0 j' o):=by
 subst h1;subst h2;exact .keepPtr _ _ _ _ _ _ _ _ hi hb hd
theorem Frz.int {k:IntKind} {a b:Int} (h:a=b):Frz H n kk (.int k a) (.int k b):=h ▸ .same _ rfl
theorem Frz.ks (i:Nat) {id d g off len sz id' off' len':Nat} {vals:List SV} (hi:kk[i]? =some (id,d)) (hb:H[id]? =some (.cells g sz vals)) (hd:d≤off) (h1:n+i=id') (h2:off - d=off') (h3:len=len'):Frz H n kk (.sl id g off len) (.sl id' 0 off' len'):=by
 subst h1;subst h2;subst h3;exact .keepSl _ _ _ _ _ _ _ _ hi hb hd
theorem Frz.km (i:Nat) {id d id':Nat} {kd:Option IntKind} {es:List (SV×SV)} (hi:kk[i]? =some (id,d)) (hb:H[id]? =some (.map kd es)) (h1:n+i=id'):Frz H n kk (.map id) (.map id'):=by
 subst h1;exact .keepMap _ _ _ _ _ hi hb
theorem Frz.sf {id g off len sz:Nat} {vals ys:List SV} (hb:H[id]? =some (.cells g sz vals)) (hn:n≤id) (hk:∀ p∈kk,p.1≠id) (hy:(vals.drop off).take len=ys) (hu:SV.underL n ys=true):Frz H n kk (.sl id g off len) (.list sz ys):=by
 subst hy;exact .sl _ _ _ _ _ _ _ hb hn hk (FrzL.same hu)
end
theorem get_oldS {H L:List Blk} {id:Nat} {x:Blk} (h:id<H.length):(H.set id x++L)[id]? =some x:=by
 rw[List.getElem?_append_left (by simpa using h),List.getElem?_set_self h]
theorem set_oldS {H L:List Blk} {id:Nat} {x y:Blk} (h:id<H.length):(H.set id x++L).set id y=H.set id y++L:=by
 rw[List.set_append,if_pos (by simpa using h),List.set_set]
theorem KeepB.c {H:List Blk} {n:Nat} {kk:Keep} {id d g sz:Nat} {vals ys:List SV} {r:Keep} {bs:List Blk} (hb:H[id]? =some (.cells g sz vals)) (hn:n≤id) (hd:d≤vals.length) (hv:FrzL H n kk (vals.drop d) ys) (t:KeepB H n kk r bs):KeepB H n kk ((id,d)::r) (.cells 0 sz ys::bs):= .cells _ _ _ _ _ _ _ _ hb hn hd hv t
theorem KeepB.m {H:List Blk} {n:Nat} {kk:Keep} {id:Nat} {kd:Option IntKind} {es fs:List (SV×SV)} {r:Keep} {bs:List Blk} (hb:H[id]? =some (.map kd es)) (hn:n≤id) (hv:FrzE H n kk es fs) (t:KeepB H n kk r bs):KeepB H n kk ((id,0)::r) (.map kd fs::bs):= .map _ _ _ _ _ _ hb hn hv t
theorem SV.underL_append {n:Nat}:∀ (xs ys:List SV),SV.underL n (xs++ys)=(SV.underL n xs&&SV.underL n ys)
 |[],ys=>by simp[SV.underL]
 |x::xs,ys=>by simp[SV.underL,SV.underL_append xs ys,Bool.and_assoc]
theorem SV.underL_map {α:Type} {n:Nat} {f:α→SV}:∀ {l:List α},(∀ a∈l,(f a).under n=true)→SV.underL n (l.map f)=true
 |[],_=>rfl
 |x::xs,h=>by
  have h1:=h x (List.mem_cons_self ..)
  have h2:=SV.underL_map (l:=xs) (fun a ha=>h a (List.mem_cons_of_mem _ ha))
  simp only[List.map,SV.underL,h1,h2,Bool.and_self]
theorem under_mstr {α:Type} {n:Nat} (f:α→Str) (l:List α):SV.underL n (l.map fun a=> .str (f a))=true:=SV.underL_map fun _ _=>rfl
theorem under_mint {α:Type} {n:Nat} {k:IntKind} (f:α→Int) (l:List α):SV.underL n (l.map fun a=> .int k (f a))=true:=SV.underL_map fun _ _=>rfl
theorem under_mbool {α:Type} {n:Nat} (f:α→Bool) (l:List α):SV.underL n (l.map fun a=> .bool (f a))=true:=SV.underL_map fun _ _=>rfl
section
variable {H L:List Blk} {id id2:Nat} {x y z:Blk}
theorem get_app0S:(H.set id x++L)[H.length]? =L[0]? :=by have:=get_app0 (H.set id x) L;rwa[List.length_set] at this
theorem get_appS (k:Nat):(H.set id x++L)[H.length+k]? =L[k]? :=by have:=get_app (H.set id x) L k;rwa[List.length_set] at this
theorem set_app0S:(H.set id x++L).set H.length z=H.set id x++L.set 0 z:=by have:=set_app0 (H.set id x) L z;rwa[List.length_set] at this
theorem set_appS (k:Nat):(H.set id x++L).set (H.length+k) z=H.set id x++L.set k z:=by have:=set_app (H.set id x) L k z;rwa[List.length_set] at this
theorem get_app0SS:((H.set id x).set id2 y++L)[H.length]? =L[0]? :=by have:=get_app0 ((H.set id x).set id2 y) L;rwa[List.length_set,List.length_set] at this
theorem get_appSS (k:Nat):((H.set id x).set id2 y++L)[H.length+k]? =L[k]? :=by have:=get_app ((H.set id x).set id2 y) L k;rwa[List.length_set,List.length_set] at this
theorem set_app0SS:((H.set id x).set id2 y++L).set H.length z=(H.set id x).set id2 y++L.set 0 z:=by have:=set_app0 ((H.set id x).set id2 y) L z;rwa[List.length_set,List.length_set] at this
theorem set_appSS (k:Nat):((H.set id x).set id2 y++L).set (H.length+k) z=(H.set id x).set id2 y++L.set k z:=by have:=set_app ((H.set id x).set id2 y) L k z;rwa[List.length_set,List.length_set] at this
end
end
section
def zipEnv:List Nat→List SV→Env→Env
 |t::ts,x::xs,env=>zipEnv ts xs ((t,x)::env)
 |_,_,env=>env
section
variable {P:Program} {G:Gl} {T:Tab} {own:List Nat} {nt B:Nat} {ρ:Option Nat} {C c:Cx} {rs:List ResultVar} {R:SV→List Blk→Prop} {env env0:Env} {H X:List Blk} {k:List It}
theorem zipEnv_ok:∀ {ts:List Nat} {xs:List SV} {vs:List Value} {env:Env} {tm:Array Value},RepL c xs vs→ts.length=xs.length→(∀ t∈ts,t<tm.size)→(∀ t x,look env t=some x→Rep c x (tm.getD t undef))→
 ((ts.zip vs).foldl (fun tm (p:Nat×Value)=>tm.setIfInBounds p.1 p.2) tm).size=tm.size∧∀ t x,look (zipEnv ts xs env) t=some x→Rep c x (((ts.zip vs).foldl (fun tm (p:Nat×Value)=>tm.setIfInBounds p.1 p.2) tm).getD t undef)
 |[],[],vs,env,tm,hv,_,_,he=>by
  rw[RepL.nil_iff.1 hv];exact⟨rfl,he⟩
 |t::ts,x::xs,vs,env,tm,hv,hl,ht,he=>by
  obtain⟨u,us,h1,h2,rfl⟩:=RepL.cons_iff.1 hv
  have hts:t<tm.size:=ht t (List.mem_cons_self ..)
  have:=zipEnv_ok (ts:=ts) (env:=(t,x)::env) (tm:=tm.setIfInBounds t u) h2 (by simpa using hl) (fun t' h'=>by simpa using ht t' (List.mem_cons_of_mem _ h')) (fun t' x' h'=>by
   simp only[look] at h'
   rw[Array.getD_eq_getD_getElem?]
   split at h'
   ·rename_i e;cases h';subst e;simp[hts,h1]
   ·rename_i e
    rw[Array.getElem?_setIfInBounds_ne (fun h=>e h.symm),← Array.getD_eq_getD_getElem?]
    exact he t' x' h')
  simpa [zipEnv] using this
 |[],_::_,_,_,_,_,h,_,_=>by cases h
 |_::_,[],_,_,_,_,h,_,_=>by cases h
theorem obj_at {c:Cx} (hc:HeapOK c) {id:Nat} {o:Obj} (h:c.H[id]? =some (.obj o)):∃ b,c.θ id=some (b,0)∧c.w.heap[b]? =some o:=by
 obtain⟨b,h1,h2,_⟩:=hc.blk id _ h
 exact⟨b,h1,h2⟩
theorem obj_turn {c:Cx} (hc:HeapOK c) {id b:Nat} {o o':Obj} (h:c.H[id]? =some (.obj o)) (hb:c.θ id=some (b,0)) (hlp:isLp o'=isLp o) (hnc:∀ cs T fr,o≠ .cells cs T fr) (hnd:∀ ds,o'≠ .deferred ds):
 ∃ c',c'.H=c.H.set id (.obj o')∧c'.w=c.w.putObj b o'∧Grow c c'∧HeapOK c':=by
 obtain⟨b',h1,h2⟩:=obj_at hc h
 rw[hb] at h1
 cases h1
 have hlt:b<c.w.heap.size:=(Array.getElem?_eq_some_iff.1 h2).1
 obtain⟨g1,g2⟩:=Cx.turn hc (w':=c.w.putObj b o') h rfl (c.θ id) (B':= .obj o') ⟨⟨o',rfl,hlp⟩,rfl⟩ (fun k hk hno=>World.putObj_heap_other (fun e=>hno 0 (e ▸ hb))) (by simp) rfl rfl rfl
  (fun b2 cs T fr hcs=>⟨cs,fr,by rw[World.putObj_heap_other (fun e=>by rw[e,h2] at hcs;cases hcs;exact hnc _ _ _ rfl)];exact hcs,rfl⟩)
  (fun hg=>⟨b,by simp[hb],World.putObj_heap_same hlt,hnd⟩)
 exact⟨_,rfl,rfl,g1,g2⟩
def fal:SV→List Blk→Prop:=fun _ _=>False
theorem out_nil {nt:Nat} {ρ:Option Nat} {e:Exit} {env:Env} {H:List Blk} {a:Act} {c:Cx} (h:Out P G T own nt ρ C [] fal [] e env H) (hc:c.H=H) (hh:HeapOK c) (hg:Grow C c):False:=by
 have key:RetG C T [] fal env H→False:=fun⟨xs,h1,h2⟩=>by
  simp only[resL,Option.some.injEq] at h1
  subst h1
  obtain⟨c',y,_,h3,_⟩:=h2 c (.tuple #[]) hc hh (by simp only[resSV,Rep];exact⟨[],RepL.mk_nil,by simp⟩) hg
  exact h3
 cases e with
 |normal=>exact key h
 |ret=>exact key h
 |_=>exact h
theorem go_rangeFunc (hT:TabOK P T) {g:Operand} {ps:Array Tmp} {asn bd:Code} {gf:FuncId} {fst cap:List SV} {σ ξ:Type} (M:σ→List Blk) (n1:Nat) (hM:∀ s,(M s).length=n1) (s0:σ) (env0:Env)
 (args:ξ→List SV) (Pre:σ→ξ→Prop) (next:σ→ξ→σ) (Done:σ→Prop) (E1:ξ→Env)
 (hf:ev G env0 g=some (.fn (.func gf) fst cap)) (hps:ps.toList.all (fun t=>Nat.blt t nt)=true) (hargs:∀ x,(args x).length=ps.size) (hE:∀ x,zipEnv ps.toList (args x) env0=E1 x)
 (hw:Wk G nt C ⟨env,H⟩ ⟨env0,M s0⟩)
 (hit:∀ (G':Gl) (LO:Blk),G'.l=G.l→LO.under (n1+1)=true→(∀ s x X,Pre s x→ACallV P G' (.it n1) (args x) (M s++LO::X) (fun r H'=>H'=M (next s x)++LO::X∧r= .bool true))→
  ACall P G' gf (fst++[.it n1]++cap) (M s0++[LO]) (fun r H'=>∃ s,Done s∧H'=M s++[LO]))
 (hbody:∀ (G':Gl) (C':Cx) (ρ':Option Nat) (s:σ) (x:ξ) (X:List Blk) (LO LB:Blk) (K1 K:Env→List Blk→Prop),G'.l=G.l→Based G' C'.H.length→C'.H=M s++LO::X→closed (M s++LO::X)→LO.under 0=true→LB.under 0=true→Pre s x→
  Back (∀ env' H',H'[n1]? =some LO→Out P G' T own nt ρ' C' [] fal [.code bd,.pred K] .normal env' (H'.set n1 LB)→K1 env' H')→
  Back (∀ env' H',Wk G' nt C' ⟨env',H'⟩ ⟨[],M (next s x)++LB::X⟩→K env' H')→
  Out P G' T own nt ρ' C' [] fal [.code asn,.pred K1] .normal (E1 x) (M s++LO::X))
 (hk:∀ s (LO:Blk),Done s→LO.under 0=true→Out P G T own nt none C rs R k .normal env0 (M s++[LO])):
 Out P G T own nt none C rs R (.code (.rangeFunc g ps asn bd)::k) .normal env H:=by
 intro c a hc hi hg
 obtain⟨c0,e1,e2,hi0,hg0⟩:=hw c a hc hi hg
 rw[← e2]
 clear hi hg hc
 refine wpIn_rangeFunc fun fn hfn=>?_
 
 have hfv:=ev_ok hi0 hf
 simp only[Rep] at hfv
 obtain⟨us,cs,r1,r2,hfe⟩:=hfv
 generalize hr0:({ state:= .ready,pending:=none,fn:=fn,tmps:=a.tmps,params:=ps,assign:=asn,body:=bd,defers:=c0.w.heap.size}:Loop)=r0
 generalize hl:c0.w.heap.size+1=l
 
 have hwd:=Cx.world hi0.heap (w':=c0.w.alloc (.deferred (some []))) (fun b hb=>Go.RowKit.Below.heap_alloc c0.w _ b hb) (by simp) rfl rfl rfl
 have hfr:=Cx.fresh hwd.2 (w':=(c0.w.alloc (.deferred (some []))).alloc (.loop r0)) l (by simp[← hl]) 0 (some (l,0)) (.inr rfl) (.obj (.loop r0)) (fun b hb=>Go.RowKit.Below.heap_alloc _ _ b hb) (by simp) rfl rfl rfl
  (fun _=>⟨l,by simp,by have:=World.alloc_heap_new (c0.w.alloc (.deferred (some []))) (.loop r0);rw[World.size_alloc] at this;rw[← hl];exact this,fun ds e=>by cases e⟩)
 obtain⟨c1,hc1w,hc1H,hc1θ,hθo,hg1,hh1⟩:∃ c1:Cx,c1.w=(c0.w.alloc (.deferred (some []))).alloc (.loop r0)∧c1.H=M s0++[.obj (.loop r0)]∧c1.θ n1=some (l,0)∧(∀ id,id≠n1→c1.θ id=c0.θ id)∧Grow c0 c1∧HeapOK c1:=by
  refine⟨_,rfl,?_,?_,?_,hwd.1.trans hfr.1,hfr.2⟩
  ·show c0.H++_=_
   rw[e1]
  ·show(if n1=c0.H.length then _ else _)=_
   rw[if_pos]
   rw[e1];exact(hM s0).symm
  ·intro id hid
   show(if id=c0.H.length then _ else _)=_
   rw[if_neg]
   rw[e1];show ¬ id=(M s0).length;rw[hM s0];exact hid
 have hyv:Rep c1 (.it n1) (.func (.yield l) #[] #[]):=by
  simp only[Rep,hc1H]
  rw[show(M s0++[Blk.obj (Obj.loop r0)])[n1]? =some (.obj (.loop r0)) by rw[← hM s0,List.getElem?_append_right (Nat.le_refl _),Nat.sub_self];rfl]
  exact⟨rfl,l,hc1θ,rfl⟩
 have hres:(resolve a.eval (rangeCall g l) 0).run P c1.w= .ok { target:= .fn (.func gf) cs.toArray,args:=us.toArray++ #[.func (.yield l) #[] #[]]} c1.w:=by
  show(Deferred.ofValue (a.eval g) _).run P c1.w=_
  rw[hfe]
  simp[Deferred.ofValue,Act.eval]
 
 let G':Gl:=⟨G.l,some c1⟩
 have hG1:GOK G' c1:=⟨fun p hp=>((hi0.glob.grow hg1).1 p hp),fun C0 h0=>by cases h0;exact Grow.refl _⟩
 have hdata:∀ {cy:Cx} {s:σ} {X:List Blk},cy.H=M s++ .obj (.loop r0)::X→HeapOK cy→GOK G' cy→cy.θ n1=some (l,0)∧cy.w.heap[l]? =some (.loop r0):=by
  intro cy s X hH hh hG
  have hgr:=hG.2 c1 rfl
  have hn:cy.H[n1]? =some (.obj (.loop r0)):=by rw[hH,← hM s,List.getElem?_append_right (Nat.le_refl _),Nat.sub_self];rfl
  obtain⟨b,q1,q2⟩:=obj_at hh hn
  have hn1:c1.H[n1]? =some (.obj (.loop r0)):=by rw[hc1H,← hM s0,List.getElem?_append_right (Nat.le_refl _),Nat.sub_self];rfl
  obtain⟨B',q3,q4⟩:=hgr.ids n1 _ hn1
  have hθ:cy.θ n1=c1.θ n1:=q4.2
  rw[hc1θ] at hθ
  rw[hθ] at q1
  cases q1
  exact⟨hθ,q2⟩
 have hyield:∀ s x X,Pre s x→ACallV P G' (.it n1) (args x) (M s++ .obj (.loop r0)::X) (fun r H'=>H'=M (next s x)++ .obj (.loop r0)::X∧r= .bool true):=by
  intro s x X hpre cy v vs hH hh hG hv hvs
  obtain⟨d1,d2⟩:=hdata hH hh hG
  have hn:cy.H[n1]? =some (.obj (.loop r0)):=by rw[hH,← hM s,List.getElem?_append_right (Nat.le_refl _),Nat.sub_self];rfl
  simp only[Rep,hn] at hv
  obtain⟨_,b,q1,q2⟩:=hv
  rw[d1] at q1
  cases q1
  subst q2
  have hlen:vs.length=ps.size:=by rw[hvs.length,hargs]
  refine⟨{ target:= .fn (.yield l) #[],args:= #[]++vs.toArray},cy.w,rfl,.inr ⟨l,r0.fn,(r0.params.zip (#[]++vs.toArray)).foldl (fun tmps (t,a)=>tmps.setIfInBounds t a) r0.tmps,r0.assign,r0.body,cy.w,?_,?_⟩⟩
  ·have:=run_yield (P:=P) (args:= #[]++vs.toArray) d2 (by rw[← hr0];simp[hlen])
   simpa [invoke] using this
  ·refine roundIn_of_wpIn trivial ?_
   have hgy:=hG.2 c1 rfl
   have hlo:∀ (o:Obj) (n:Nat),(Blk.obj o).under n=true:=fun _ _=>rfl
   have hn1':∀ (H':List Blk) (c':Cx),c'.H=H'→HeapOK c'→Grow cy c'→∀ o,H'[n1]? =some (.obj o)→c'.θ n1=some (l,0)∧c'.w.heap[l]? =some o:=fun H' c' hH' hh' hg' o ho=>by
    obtain⟨B',q3,q4⟩:=hg'.ids n1 _ hn
    have hθ:c'.θ n1=cy.θ n1:=q4.2
    rw[d1] at hθ
    obtain⟨b,q1,q2⟩:=obj_at hh' (by rw[hH'];exact ho)
    rw[hθ] at q1
    cases q1
    exact⟨hθ,q2⟩
   generalize hLB:(Blk.obj (.loop { r0 with state:= .busy}))=LB
   have hO:=hbody G' cy (some l) s x X (.obj (.loop r0)) LB (fun env' H'=>H'[n1]? =some (.obj (.loop r0))∧Out P G' T own nt (some l) cy [] fal [.code bd,.pred fun env' H'=>Wk G' nt cy ⟨env',H'⟩ ⟨[],M (next s x)++LB::X⟩] .normal env' (H'.set n1 LB))
    (fun env' H'=>Wk G' nt cy ⟨env',H'⟩ ⟨[],M (next s x)++LB::X⟩) rfl hG.based hH (hH ▸ hh.closed) rfl (by rw[← hLB];rfl) hpre (fun env' H' q1 q2=>⟨q1,q2⟩) (fun env' H' q=>q)
   have hz:=zipEnv_ok (c:=cy) (ts:=ps.toList) (env:=env0) (tm:=a.tmps) hvs (by simp[hargs]) (fun t ht=>by
    have:=List.all_eq_true.1 hps t ht
    rw[Nat.blt_eq] at this
    rw[hi0.size];exact this) (fun t y hy=>((hi0.env t y hy).grow hg1).grow hgy)
   have htm:(r0.params.zip (#[]++vs.toArray)).foldl (fun tmps (t,a)=>tmps.setIfInBounds t a) r0.tmps=(ps.toList.zip vs).foldl (fun tm (p:Nat×Value)=>tm.setIfInBounds p.1 p.2) a.tmps:=by
    rw[← hr0,← Array.foldl_toList]
    simp
   rw[htm]
   have hinv:Inv G' nt cy.w.heap.size cy (E1 x) { tmps:=(ps.toList.zip vs).foldl (fun tm (p:Nat×Value)=>tm.setIfInBounds p.1 p.2) a.tmps,defers:=[]}:=
    ⟨hh,hG,hz.1.trans hi0.size,by rw[← hE x];exact hz.2,⟨by simp,List.Pairwise.nil⟩⟩
   rw[← hr0]
   have hA:=hO cy _ hH hinv (Grow.refl cy)
   refine wpIn_mono hA ?_
   rintro e a1 w1 ⟨s',c',p1,p2,rfl,p4,p5⟩
   have hbad:∀ (e':Exit) (env':Env) (a':Act) (c':Cx),Out P G' T own nt (some l) cy [] fal [] e' env' c'.H→HeapOK c'→Grow cy c'→False:=fun e' env' a' c' h1 h2 h3=>out_nil (a:=a') h1 rfl h2 h3
   cases e with
   |normal=>
    obtain⟨env2,he,k1,k2⟩:=p1
    obtain⟨t1,t2⟩:=hn1' s'.H c' p2 p4.heap p5 _ k1
    obtain⟨c2,u1,u2,u3,u4⟩:=obj_turn (o:= .loop r0) (o':= .loop { r0 with state:= .busy}) p4.heap (by rw[p2];exact k1) t1 rfl (fun _ _ _ e=>by cases e) (fun _ e=>by cases e)
    refine⟨c2.w,by rw[u2];exact run_beginRound t2 (by rw[← hr0]),?_⟩
    have hA2:=k2 c2 a1 (by rw[u1,p2,hLB]) ⟨u4,p4.glob.grow u3,p4.size,fun t y hy=>(p4.env t y (by rw[← he t];exact hy)).grow u3,p4.defs.grow u3⟩ (p5.trans u3)
    refine wpIn_mono hA2 ?_
    rintro e2 a2 w2 ⟨s2,c3,v1,v2,rfl,v4,v5⟩
    cases e2 with
    |normal=>
     obtain⟨env3,he3,k3⟩:=v1
     obtain⟨c4,x1,x2,x3,x4⟩:=k3 c3 a2 v2 ⟨v4.heap,v4.glob,v4.size,fun t y hy=>v4.env t y (by rw[← he3 t];exact hy),v4.defs⟩ v5
     have hnB:(M (next s x)++LB::X)[n1]? =some (.obj (.loop { r0 with state:= .busy})):=by rw[← hM (next s x),List.getElem?_append_right (Nat.le_refl _),Nat.sub_self,hLB];rfl
     obtain⟨t3,t4⟩:=hn1' _ c4 x1 x3.heap x4 _ hnB
     obtain⟨c5,y1,y2,y3,y4⟩:=obj_turn (o:= .loop { r0 with state:= .busy}) (o':= .loop r0) x3.heap (by rw[x1];exact hnB) t3 rfl (fun _ _ _ e=>by cases e) (fun _ e=>by cases e)
     have hrun:=run_endRound (P:=P) none t4
     rw[← x2]
     refine⟨_,_,hrun,.bool true,.bool true,c5,rfl,?_,⟨?_,rfl⟩,y4,by simp only[Rep],x4.trans y3⟩
     ·rw[y2,← hr0];rfl
     ·rw[y1,x1,List.set_append,if_neg (by rw[hM];omega),hM,Nat.sub_self,hr0];rfl
    |ret=>exact(hbad .ret s2.env a2 c3 (by rw[v2];exact v1) v4.heap v5).elim
    |exit id=>exact(hbad (.exit id) s2.env a2 c3 (by rw[v2];exact v1) v4.heap v5).elim
    |goto t=>exact(hbad (.goto t) s2.env a2 c3 (by rw[v2];exact v1) v4.heap v5).elim
    |panic ch=>exact(hbad (.panic ch) s2.env a2 c3 (by rw[v2];exact v1) v4.heap v5).elim
    |outgrown=>exact(hbad .outgrown s2.env a2 c3 (by rw[v2];exact v1) v4.heap v5).elim
   |ret=>exact(hbad .ret s'.env a1 c' (by rw[p2];exact p1) p4.heap p5).elim
   |exit id=>exact(hbad (.exit id) s'.env a1 c' (by rw[p2];exact p1) p4.heap p5).elim
   |goto t=>exact(hbad (.goto t) s'.env a1 c' (by rw[p2];exact p1) p4.heap p5).elim
   |panic ch=>exact(hbad (.panic ch) s'.env a1 c' (by rw[p2];exact p1) p4.heap p5).elim
   |outgrown=>exact(hbad .outgrown s'.env a1 c' (by rw[p2];exact p1) p4.heap p5).elim
 
 have hcall:=hit G' (.obj (.loop r0)) rfl rfl hyield
 obtain⟨⟨fnn,f1,f2,f3⟩,hcall⟩:=hcall
 have hc':=hcall c1 (us++[.func (.yield l) #[] #[]]++cs) hc1H hh1 hG1 (((r1.grow hg1).append (RepL.mk_cons hyv RepL.mk_nil)).append (r2.grow hg1))
 have f2':¬ fnn.name= "runtime.NumGoroutine" :=by simpa using f2
 have f3':¬ fnn.body=none:=by cases hb:fnn.body<;>simp_all
 refine⟨l,[{ target:= .collected c0.w.heap.size,args:= #[]}],c1.w,_,c1.w,gf,(us++[Value.func (.yield l) #[] #[]]++cs).toArray,c1.w,?_,hres,fun _ _=>trivial,?_,fun h=>(by cases h),?_⟩
 ·rw[hc1w,← hl,← hr0]
  exact run_enterLoop_outer fn a.tmps ps asn bd
 ·simp[invoke,callFunc,Sem.run_bind,f1,f2',f3']
 ·refine hc'.mono ?_
  rintro e w' ⟨v,y,c2,rfl,rfl,⟨s,hdone,hH2⟩,hh2,hy,hg2⟩
  have hn1:c1.H[n1]? =some (.obj (.loop r0)):=by rw[hc1H,← hM s0,List.getElem?_append_right (Nat.le_refl _),Nat.sub_self];rfl
  have hn2:c2.H[n1]? =some (.obj (.loop r0)):=by rw[hH2,← hM s,List.getElem?_append_right (Nat.le_refl _),Nat.sub_self];rfl
  obtain⟨b,q1,q2⟩:=obj_at hh2 hn2
  obtain⟨B',q3,q4⟩:=hg2.ids n1 _ hn1
  have hθ:c2.θ n1=c1.θ n1:=q4.2
  rw[hc1θ] at hθ
  rw[hθ] at q1
  cases q1
  obtain⟨c3,y1,y2,y3,y4⟩:=obj_turn (o:= .loop r0) (o':= .loop { r0 with state:= .exhausted}) hh2 hn2 hθ rfl (fun _ _ _ e=>by cases e) (fun _ e=>by cases e)
  refine⟨none,c3.w,?_,?_⟩
  ·rw[y2]
   have:=run_endLoop (P:=P) q2 (by rw[← hr0];simp)
   rw[this,← hr0]
  ·have hgr:Grow c0 c3:=hg1.trans (hg2.trans y3)
   have hD:c1.imm c0.w.heap.size:=by
    refine⟨by rw[hc1w,World.size_alloc,World.size_alloc];omega,fun ho=>?_⟩
    obtain⟨id,o,⟨B0,hB0,hlv⟩,ht⟩:=ho
    by_cases hid:id=n1
    ·subst hid
     rw[hc1θ] at ht
     cases ht
     omega
    ·rw[hθo id hid] at ht
     have hB0':c0.H[id]? =some B0:=by
      rw[hc1H] at hB0
      rw[e1]
      have hlt:=(List.getElem?_eq_some_iff.1 hB0).1
      simp only[List.length_append,List.length_cons,List.length_nil,hM s0] at hlt
      rw[List.getElem?_append_left (by rw[hM s0];omega)] at hB0
      exact hB0
     have:=BlkRep.lt (hi0.heap.blk id B0 hB0') hlv ht
     omega
   have hDat:c1.w.heap[c0.w.heap.size]? =some (.deferred (some [])):=by
    rw[hc1w,Go.RowKit.Below.heap_alloc _ _ _ (by simp)]
    exact World.alloc_heap_new _ _
   have hDim:c3.imm c0.w.heap.size:=(hg2.trans y3).imm hD
   have hDat3:c3.w.heap[c0.w.heap.size]? =some (.deferred (some [])):=by rw[(hg2.trans y3).keep hD];exact hDat
   have hinv3:Inv G nt C.w.heap.size c3 env0 { a with defers:=[{ target:= .collected c0.w.heap.size,args:= #[]}]++a.defers}:=by
    refine⟨y4,hi0.glob.grow hgr,hi0.size,fun t x hx=>(hi0.env t x hx).grow hgr,⟨fun d hd=>?_,?_⟩⟩
    ·rcases List.mem_append.1 hd with hd|hd
     ·rw[List.mem_singleton] at hd
      exact⟨_,hd,hDat3,hDim,hg0.size⟩
     ·exact(hi0.defs.grow hgr).1 d hd
    ·rw[List.singleton_append,List.pairwise_cons]
     refine⟨fun d hd r hr hdr=>?_,hi0.defs.2⟩
     obtain⟨r',q1,q2,q3,q4⟩:=hi0.defs.1 d hd
     rw[q1] at hdr
     have:=q3.1
     simp only[Deferred.mk.injEq,Target.collected.injEq] at hr hdr
     omega
   have hko:=hk s (.obj (.loop { r0 with state:= .exhausted})) hdone rfl
   have hout:Out P G T own nt none C rs R k .normal env0 c3.H:=by
    rw[y1,hH2,List.set_append,if_neg (by rw[hM];omega),hM,Nat.sub_self]
    exact hko
   exact⟨⟨env0,c3.H⟩,c3,hout,rfl,rfl,hinv3,hg0.trans hgr⟩
end
theorem under_bde {n:Nat} (l:List Bd):SV.underL n (l.map fun b=> .agg b.e.cells)=true:=SV.underL_map fun b _=>Ex.cells_under n b.e
theorem under_alb {n:Nat} (l:List Al):SV.underL n (l.map fun a=> .agg a.body.cells)=true:=SV.underL_map fun a _=>Ex.cells_under n a.body
end
end Go.Proofs.YtedejleokilohaaGreatDoor
