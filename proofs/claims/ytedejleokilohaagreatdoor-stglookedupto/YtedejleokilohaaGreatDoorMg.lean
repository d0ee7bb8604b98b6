/- A part of the proof: SwN, SwO, K2, X1, Sh2, Sh3, Q1, X5, X3, U1, U2, U6, U8, U4, V1, W1, W2, W3, W4, Shelf, W5, W6, Y4, Y5, Y6, Y7, Y9, D0. Names and spaces are cut short by program. -/
import Derived.Test.YtedejleokilohaaGreatDoorMf
import Derived.Lib.AtoiErrMem
import Derived.Test.YtedejleokilohaaGreatDoorCards
import Derived.Test.YtedejleokilohaaGreatDoorTie
import Derived.Deep.DeepHandedRow
import Derived.Lib.LaidTab
import Derived.Stop.LaidErr
import Derived.Shelf.Strconv.AtoiErr
import Derived.Shelf.SlMaps.Clone
import Derived.Test.YtedejleokilohaaGreatDoorProg
import Derived.Shelf.LaysM
import Derived.Shelf.Strconv.Itoa3
import Derived.Shelf.Strconv.AtoiAll
import Derived.Lib.SmallJoins
import Derived.Lib.AppendIntMem
import Derived.Sort.KeysCollected
import Derived.Shelf.Sort.Plain
import Derived.Shelf.Slices.In.SortNone
set_option linter.unusedSimpArgs false
set_option linter.unusedVariables false
set_option maxRecDepth 10000
set_option maxHeartbeats 4000000
namespace Go.Proofs.YtedejleokilohaaGreatDoor
open Go
section
mutual
def SV.same:SV→SV→Bool
 | .undef,y=>(match y with| .undef=>true|_=>false)
 | .bool a,y=>(match y with| .bool b=>a==b|_=>false)
 | .int k n,y=>(match y with| .int k' n'=>decide (k=k')&&decide (n=n')|_=>false)
 | .str s,y=>(match y with| .str t=>decide (s=t)|_=>false)
 | .agg xs,y=>(match y with| .agg ys=>SV.sames xs ys|_=>false)
 | .nil,y=>(match y with| .nil=>true|_=>false)
 | .list a xs,y=>(match y with| .list b ys=>Nat.beq a b&&SV.sames xs ys|_=>false)
 | .ptr a b c d,y=>(match y with| .ptr a' b' c' d'=>Nat.beq a a'&&Nat.beq b b'&&Nat.beq c c'&&Nat.beq d d'|_=>false)
 | .sl a b c d,y=>(match y with| .sl a' b' c' d'=>Nat.beq a a'&&Nat.beq b b'&&Nat.beq c c'&&Nat.beq d d'|_=>false)
 | .map a,y=>(match y with| .map b=>Nat.beq a b|_=>false)
 | .nilmap,y=>(match y with| .nilmap=>true|_=>false)
 | .nilptr,y=>(match y with| .nilptr=>true|_=>false)
 | .nilfn,y=>(match y with| .nilfn=>true|_=>false)
 | .ifc a,y=>(match y with| .ifc b=>a==b|_=>false)
 | .tuple xs,y=>(match y with| .tuple ys=>SV.sames xs ys|_=>false)
 | .pto x,y=>(match y with| .pto z=>SV.same x z|_=>false)
 | .fn f xs ys,y=>(match f,y with| .func a,.fn (.func b) us vs=>Nat.beq a b&&SV.sames xs us&&SV.sames ys vs|_,_=>false)
 |_,_=>false
def SV.sames:List SV→List SV→Bool
 |[],ys=>(match ys with|[]=>true|_=>false)
 |x::xs,ys=>(match ys with|y::ys=>SV.same x y&&SV.sames xs ys|_=>false)
end
theorem SV.same_both:(∀ x:SV,∀ y,SV.same x y=true→x=y)∧(∀ xs:List SV,∀ ys,SV.sames xs ys=true→xs=ys):=by
 refine SV.both (fun x h1 h2 h3 h4 h5 h6 y h=>?_) (fun fs ih y h=>?_) (fun n xs ih y h=>?_) (fun x ih y h=>?_) (fun f a b ia ib y h=>?_) (fun xs ih y h=>?_) (fun b clk born kd ks vs i1 i2 y h=>?_) (fun ys h=>?_) (fun x xs ix ixs ys h=>?_)
 ·cases x<;>first|(exact(h1 _ rfl).elim)|(exact(h2 _ _ rfl).elim)|(exact(h3 _ rfl).elim)|(exact(h4 _ _ _ rfl).elim)|(exact(h5 _ rfl).elim)|(exact(h6 _ _ _ _ _ _ rfl).elim)|(cases y<;>simp_all [SV.same])
 ·cases y<;>simp only[SV.same] at h<;>first|(cases h;done)|(rw[ih _ h])
 ·cases y<;>simp only[SV.same,Bool.and_eq_true] at h<;>first|(cases h;done)|(obtain⟨h1,h2⟩:=h;rw[ih _ h2,Nat.eq_of_beq_eq_true h1])
 ·cases y<;>simp only[SV.same] at h<;>first|(cases h;done)|(rw[ih _ h])
 ·simp only[SV.same] at h
  split at h
  ·simp only[Bool.and_eq_true] at h
   obtain⟨⟨h1,h2⟩,h3⟩:=h
   rw[Nat.eq_of_beq_eq_true h1,ia _ h2,ib _ h3]
  ·cases h
 ·cases y<;>simp only[SV.same] at h<;>first|(cases h;done)|(rw[ih _ h])
 ·simp[SV.same] at h
 ·cases ys with
  |nil=>rfl
  |cons=>simp[SV.sames] at h
 ·cases ys with
  |nil=>simp[SV.sames] at h
  |cons y ys=>simp only[SV.sames,Bool.and_eq_true] at h;rw[ix _ h.1,ixs _ h.2]
def optSame:Option SV→Option SV→Bool
 |some a,some b=>SV.same a b
 |none,none=>true
 |_,_=>false
theorem optSame_eq {a b:Option SV} (h:optSame a b=true):a=b:=by
 cases a<;>cases b<;>simp only[optSame] at h<;>first|rfl|(cases h;done)|(rw[SV.same_both.1 _ _ h])
def sameE:List (SV×SV)→List (SV×SV)→Bool
 |[],ys=>(match ys with|[]=>true|_=>false)
 |(a,b)::xs,ys=>(match ys with|(c,d)::ys=>SV.same a c&&SV.same b d&&sameE xs ys|_=>false)
theorem sameE_eq:∀ {xs ys:List (SV×SV)},sameE xs ys=true→xs=ys
 |[],ys,h=>by cases ys with
  |nil=>rfl
  |cons=>simp[sameE] at h
 |(a,b)::xs,ys,h=>by cases ys with
  |nil=>simp[sameE] at h
  |cons y ys=>
   obtain⟨c,d⟩:=y
   simp only[sameE,Bool.and_eq_true] at h
   rw[SV.same_both.1 _ _ h.1.1,SV.same_both.1 _ _ h.1.2,sameE_eq h.2]
def sameC:List SV→Nat→List SV→Bool
 |[],_,ys=>(match ys with|[]=>true|_=>false)
 |x::xs,c,ys=>(match ys with
  |[]=>false
  |y::ys=>(match c with
   |0=>bif (bif sameC xs 255 ys then true else false) then SV.same x y else false
   |c+1=>bif SV.same x y then sameC xs c ys else false))
theorem sameC_eq:∀ {xs:List SV} {c:Nat} {ys:List SV},sameC xs c ys=true→xs=ys
 |[],c,ys,h=>by
  cases ys with
  |nil=>rfl
  |cons=>simp[sameC] at h
 |x::xs,c,ys,h=>by
  cases ys with
  |nil=>simp[sameC] at h
  |cons y ys=>
   cases c with
   |zero=>
    simp only[sameC] at h
    cases h1:sameC xs 255 ys with
    |false=>rw[h1] at h;cases h
    |true=>rw[h1] at h;rw[sameC_eq h1,SV.same_both.1 _ _ h]
   |succ c=>
    simp only[sameC] at h
    cases h1:SV.same x y with
    |false=>rw[h1] at h;cases h
    |true=>rw[h1,cond_true] at h;rw[sameC_eq h,SV.same_both.1 _ _ h1]
def SV.flat0:SV→Bool
 | .bool _=>true
 | .int _ _=>true
 | .str _=>true
 |_=>false
def SV.flat1:SV→Bool
 | .agg xs=>xs.all SV.flat0
 |x=>SV.flat0 x
theorem SV.flat0_under {n:Nat} {x:SV} (h:x.flat0=true):x.under n=true:=by
 cases x<;>first|rfl|(cases h;done)
theorem SV.flat0_underL {n:Nat}:∀ {xs:List SV},xs.all SV.flat0=true→SV.underL n xs=true
 |[],_=>rfl
 |x::xs,h=>by
  simp only[List.all_cons,Bool.and_eq_true] at h
  simp only[SV.underL,SV.flat0_under h.1,SV.flat0_underL h.2,Bool.and_self]
theorem SV.flat1_under {n:Nat} {x:SV} (h:x.flat1=true):x.under n=true:=by
 cases x<;>first|exact SV.flat0_under h|(simp only[SV.under];exact SV.flat0_underL h)
def flatC:List SV→Nat→Bool
 |[],_=>true
 |x::xs,c=>(match c with
  |0=>bif (bif flatC xs 255 then true else false) then x.flat1 else false
  |c+1=>bif x.flat1 then flatC xs c else false)
theorem flatC_under {n:Nat}:∀ {xs:List SV} {c:Nat},flatC xs c=true→SV.underL n xs=true
 |[],c,_=>rfl
 |x::xs,c,h=>by
  cases c with
  |zero=>
   simp only[flatC] at h
   cases h1:flatC xs 255 with
   |false=>rw[h1] at h;cases h
   |true=>
    rw[h1] at h
    simp only[SV.underL,SV.flat1_under (show x.flat1=true from h),flatC_under h1,Bool.and_self]
  |succ c=>
   simp only[flatC] at h
   cases h1:x.flat1 with
   |false=>rw[h1] at h;cases h
   |true=>
    rw[h1,cond_true] at h
    simp only[SV.underL,SV.flat1_under h1,flatC_under h,Bool.and_self]
def Blk.same:Blk→Blk→Bool
 | .cells g sz xs,y=>(match y with| .cells g' sz' ys=>Nat.beq g g'&&Nat.beq sz sz'&&sameC xs 255 ys|_=>false)
 | .map kd es,y=>(match y with| .map kd' es'=>decide (kd=kd')&&sameE es es'|_=>false)
 | .dead,y=>(match y with| .dead=>true|_=>false)
 |_,_=>false
theorem Blk.same_eq {a b:Blk} (h:Blk.same a b=true):a=b:=by
 cases a with
 |cells g sz xs=>cases b with
  |cells g' sz' ys=>
   simp only[Blk.same,Bool.and_eq_true] at h
   rw[Nat.eq_of_beq_eq_true h.1.1,Nat.eq_of_beq_eq_true h.1.2,sameC_eq h.2]
  |_=>simp[Blk.same] at h
 |map kd es=>cases b with
  |map kd' es'=>
   simp only[Blk.same,Bool.and_eq_true,decide_eq_true_eq] at h
   rw[h.1,sameE_eq h.2]
  |_=>simp[Blk.same] at h
 |obj o=>simp[Blk.same] at h
 |dead=>cases b with
  |dead=>rfl
  |_=>simp[Blk.same] at h
def sameH:List Blk→List Blk→Bool
 |[],ys=>(match ys with|[]=>true|_=>false)
 |x::xs,ys=>(match ys with|y::ys=>Blk.same x y&&sameH xs ys|_=>false)
theorem sameH_eq:∀ {xs ys:List Blk},sameH xs ys=true→xs=ys
 |[],ys,h=>by cases ys with
  |nil=>rfl
  |cons=>simp[sameH] at h
 |x::xs,ys,h=>by cases ys with
  |nil=>simp[sameH] at h
  |cons y ys=>
   simp only[sameH,Bool.and_eq_true] at h
   rw[Blk.same_eq h.1,sameH_eq h.2]
abbrev RC:=FuncId→List SV→List Blk→Option (SV×List Blk)
def RCok (P:Program) (G:Gl) (call:RC):Prop:=∀ f xs H x H',call f xs H=some (x,H')→ACall P G f xs H (fun r H2=>H2=H'∧r=x)
def nilq (G:Gl) (T:Tab) (env:Env) (H:List Blk):Op→Option SV
 | .binOp .eql t x y _=>ob (ev G env x) fun X=>ob (ev G env y) fun Y=>match Y with
  | .nil=>chk (kindT T t=2) (ob (slLen H X) fun n=>bif Nat.beq n 0 then none else some (.bool false))
  |_=>none
 | .binOp .neq t x y _=>ob (ev G env x) fun X=>ob (ev G env y) fun Y=>match Y with
  | .nil=>chk (kindT T t=2) (ob (slLen H X) fun n=>bif Nat.beq n 0 then none else some (.bool true))
  |_=>none
 |_=>none
def lookB:Env→Nat→Option SV
 |[],_=>none
 |(k,v)::r,t=>bif Nat.beq t k then some v else lookB r t
theorem lookB_eq:∀ (env:Env) (t:Nat),lookB env t=look env t
 |[],_=>rfl
 |(k,v)::r,t=>by
  unfold lookB look
  cases h:Nat.beq t k with
  |true=>rw[cond_true,if_pos (Nat.eq_of_beq_eq_true h)]
  |false=>
   rw[cond_false,if_neg (fun e=>by rw[e,Nat.beq_refl] at h;cases h)]
   exact lookB_eq r t
def smallE (env:Env):List Operand→Env
 |[]=>[]
 | .tmp t::r=>(match lookB env t with
  |some v=>(t,v)::smallE env r
  |none=>smallE env r)
 |_::r=>smallE env r
theorem smallE_sub {env:Env} {t:Nat} {v:SV}:∀ {l:List Operand},look (smallE env l) t=some v→look env t=some v
 |[],h=>by cases h
 |x::r,h=>by
  cases x with
  |tmp s=>
   unfold smallE at h
   rw[lookB_eq] at h
   cases hs:look env s with
   |none=>rw[hs] at h;exact smallE_sub h
   |some u=>
    rw[hs] at h
    have h:(if t=s then some u else look (smallE env r) t)=some v:=h
    by_cases e:t=s
    ·rw[if_pos e] at h;rw[e,hs];exact h
    ·rw[if_neg e] at h;exact smallE_sub h
  |_=>exact smallE_sub (l:=r) h
theorem smallE_look {env:Env} {t:Nat}:∀ {l:List Operand},Operand.tmp t∈l→look (smallE env l) t=look env t
 |x::r,h=>by
  cases x with
  |tmp s=>
   unfold smallE
   rw[lookB_eq]
   cases hs:look env s with
   |some u=>
    show(if t=s then some u else look (smallE env r) t)=_
    by_cases e:t=s
    ·rw[if_pos e,e,hs]
    ·rw[if_neg e]
     rcases List.mem_cons.1 h with h|h
     ·cases h;exact(e rfl).elim
     ·exact smallE_look h
   |none=>
    show look (smallE env r) t=_
    by_cases e:t=s
    ·rw[e,hs]
     cases hr:look (smallE env r) s with
     |none=>rfl
     |some u=>rw[smallE_sub hr] at hs;cases hs
    ·rcases List.mem_cons.1 h with h|h
     ·cases h;exact(e rfl).elim
     ·exact smallE_look h
  |_=>
   rcases List.mem_cons.1 h with h|h
   ·cases h
   ·exact smallE_look (l:=r) h
theorem smallE_ev {G:Gl} {env:Env} {l:List Operand} {x:Operand} (h:x∈l):ev G (smallE env l) x=ev G env x:=by
 cases x with
 |tmp t=>exact smallE_look h
 |_=>rfl
def longB (l:List SV) (n:Nat):Bool:=match n with
 |0=>true
 |n+1=>match l.drop n with
  |[]=>false
  |_::_=>true
theorem longB_le {l:List SV} {n:Nat} (h:longB l n=true):n≤l.length:=by
 cases n with
 |zero=>exact Nat.zero_le _
 |succ n=>
  rcases Nat.lt_or_ge n l.length with h2|h2
  ·exact h2
  ·have h3:(match l.drop n with
    |[]=>false
    |_::_=>true)=true:=h
   rw[List.drop_eq_nil_of_le h2] at h3
   cases h3
def cpQ (G:Gl) (T:Tab) (env:Env) (H:List Blk):Op→Option (SV×List Blk)
 | .call ⟨.builtin .copy,⟨[d,s]⟩,⟨[t,ts]⟩⟩=>ob (elemOf T t) fun e=>ob (elemOf T ts) fun _=>ob (ev G env d) fun dv=>ob (ev G env s) fun sv=>ob (seqOf H sv) fun ys=>bb (szOK H e.2.size sv)
  (match dv with
  | .sl id g off len=>ob (blkOf H id g) fun b=>bb (Nat.beq b.1 e.2.size&&Nat.blt 0 e.2.size&&longB b.2 (off+len))
   (some (.int .i64 (min ys.length len:Nat),H.set id (.cells g e.2.size (b.2.take off++ys.take (min ys.length len)++b.2.drop (off+min ys.length len))))) none
  |_=>none) none
 |_=>none
theorem cpQ_lv {G:Gl} {T:Tab} {own:List Nat} {env:Env} {H:List Blk} {dst:Option Nat} {ty:Nat} {op:Op} {r:SV×List Blk} (h:cpQ G T env H op=some r):lv G T own env H dst ty op=some r:=by
 unfold cpQ at h
 split at h
 ·obtain⟨e,h1,h⟩:=ob_eq h
  obtain⟨e',h2,h⟩:=ob_eq h
  obtain⟨dv,h3,h⟩:=ob_eq h
  obtain⟨sv,h4,h⟩:=ob_eq h
  obtain⟨ys,h5,h⟩:=ob_eq h
  rcases bb_eq h with⟨h6,h⟩|⟨_,h⟩
  ·cases dv with
   |sl id g off len=>
    obtain⟨b,h7,h⟩:=ob_eq h
    rcases bb_eq h with⟨h8,h⟩|⟨_,h⟩
    ·simp only[Bool.and_eq_true] at h8
     obtain⟨⟨a1,a2⟩,a3⟩:=h8
     have a1:=Nat.eq_of_beq_eq_true a1
     have a2:0<e.2.size:=by simpa [Nat.blt_eq] using a2
     have a3:=longB_le a3
     rw[← h]
     unfold lv
     simp only[ob,h1,h2,h3,h4,h5,h6,chk,copyV,h7,a1,a2,a3,and_self,if_true,Option.bind_some]
    ·cases h
   |_=>cases h
  ·cases h
 ·cases h
def plainOp (G:Gl) (T:Tab) (own:List Nat) (env:Env) (H:List Blk) (dst:Option Nat) (ty:Nat) (op:Op):Option (SV×List Blk):=
 match qv G T own env H dst ty op with
 |some v=>some (v,H)
 |none=>match cpQ G T env H op with
  |some r=>some r
  |none=>match lv G T own env H dst ty op with
   |some r=>some r
   |none=>match lvI G T env H op with
    |some r=>some r
    |none=>match nilq G T env H op with
     |some v=>some (v,H)
     |none=>none
def doOp (call:RC) (G:Gl) (T:Tab) (own:List Nat) (env:Env) (H:List Blk) (dst:Option Nat) (ty:Nat):Op→Option (SV×List Blk)
 | .call ⟨.value f,args,_⟩=>ob (ev G env f) fun fv=>ob (evs G env args.toList) fun xs=>match fv with
  | .fn (.func g) first cap=>call g (first++xs++cap) H
  |_=>none
 |op=>plainOp G T own env H dst ty op
section
variable {P:Program} {G:Gl} {T:Tab} {own:List Nat} {nt:Nat} {C:Cx} {call:RC}
theorem nilq_ok {env:Env} {H:List Blk} {dst:Option Nat} {ty:Nat} {op:Op} {v:SV} {k:SV→List Blk→Prop} (h:nilq G T env H op=some v) (hk:k v H):exOp P G T own env H dst ty op k:=by
 unfold nilq at h
 split at h
 ·obtain⟨X,h1,h⟩:=ob_eq h
  obtain⟨Y,h2,h⟩:=ob_eq h
  split at h
  ·obtain⟨h3,h⟩:=chk_eq h
   obtain⟨n,h4,h⟩:=ob_eq h
   cases hn:Nat.beq n 0 with
   |true=>rw[hn] at h;cases h
   |false=>
    rw[hn] at h
    cases h
    refine exOp_nilq (eq:=true) h1 h2 h3 h4 (fun e=>?_) hk
    subst e
    cases hn
  ·cases h
 ·obtain⟨X,h1,h⟩:=ob_eq h
  obtain⟨Y,h2,h⟩:=ob_eq h
  split at h
  ·obtain⟨h3,h⟩:=chk_eq h
   obtain⟨n,h4,h⟩:=ob_eq h
   cases hn:Nat.beq n 0 with
   |true=>rw[hn] at h;cases h
   |false=>
    rw[hn] at h
    cases h
    refine exOp_nilq (eq:=false) h1 h2 h3 h4 (fun e=>?_) hk
    subst e
    cases hn
  ·cases h
 ·cases h
theorem plainOp_ok {env:Env} {H H':List Blk} {dst:Option Nat} {ty:Nat} {op:Op} {v:SV} {k:SV→List Blk→Prop} (h:plainOp G T own env H dst ty op=some (v,H')) (hk:k v H'):exOp P G T own env H dst ty op k:=by
 unfold plainOp at h
 split at h
 ·rename_i hq;cases h;exact qv_ok hq hk
 ·split at h
  ·rename_i hq;cases h;exact lv_ok (cpQ_lv hq) hk
  split at h
  ·rename_i hq;cases h;exact lv_ok hq hk
  ·split at h
   ·rename_i hq;cases h;exact lvI_ok hq hk
   ·split at h
    ·rename_i hq;cases h;exact nilq_ok hq hk
    ·cases h
theorem doOp_ok (hc:RCok P G call) {env:Env} {H H':List Blk} {dst:Option Nat} {ty:Nat} {op:Op} {v:SV} {k:SV→List Blk→Prop} (h:doOp call G T own env H dst ty op=some (v,H')) (hk:k v H'):exOp P G T own env H dst ty op k:=by
 unfold doOp at h
 split at h
 ·obtain⟨fv,h1,h⟩:=ob_eq h
  obtain⟨xs,h2,h⟩:=ob_eq h
  split at h
  ·refine⟨_,h1,xs,h2,ACallV.of ((hc _ _ _ _ _ h).mono ?_)⟩
   rintro r H2 ⟨rfl,rfl⟩
   exact hk
  ·cases h
 ·exact plainOp_ok h hk
theorem doOp_okS (hc:RCok P G call) {env:Env} {H H':List Blk} {dst:Option Nat} {ty:Nat} {op:Op} {v:SV} {k:SV→List Blk→Prop} (h:doOp call G T own (smallE env (opds op)) H dst ty op=some (v,H')) (hk:k v H'):exOp P G T own env H dst ty op k:=by
 rw[← exOp_congrO (env:=smallE env (opds op)) (fun x hx=>smallE_ev hx)]
 exact doOp_ok hc h hk
def putD (nt:Nat) (d:Option Nat) (x:SV) (env:Env):Option Env:=match d with
 |some d=>bif Nat.blt d nt then some ((d,x)::env) else none
 |none=>some env
theorem putD_ok {d:Option Nat} {x:SV} {env env':Env} {k:Env→Prop} (h:putD nt d x env=some env') (hk:k env'):putK nt d x env k:=by
 cases d with
 |none=>cases h;exact hk
 |some d=>
  unfold putD at h
  cases hb:Nat.blt d nt with
  |true=>simp only[hb,cond_true,Option.some.injEq] at h;subst h;exact⟨by simpa [Nat.blt_eq] using hb,hk⟩
  |false=>simp only[hb,cond_false] at h;cases h
end
section
variable (call:RC) (G:Gl) (T:Tab) (own:List Nat) (nt:Nat)
def gOp (all:List Oper) (o:Oper) (env:Env) (H:List Blk):Option (SV×List Blk):=
 match o.guard with
 |none=>doOp call G T own (smallE env (opds o.op)) H o.dst o.type o.op
 |some (j,want)=>ob ((all[j]?).bind (·.dst)) fun dj=>ob (lookB env dj) fun v=>ob (asG v) fun b=>bb (b==some want) (doOp call G T own (smallE env (opds o.op)) H o.dst o.type o.op) (some (.undef,H))
def evOps (all:List Oper):List Oper→Env→List Blk→Option (Env×List Blk)
 |[],env,H=>some (env,H)
 |o::r,env,H=>match gOp call G T own all o env H with
  |some (x,H')=>(match putD nt o.dst x env with
   |some env'=>evOps all r env' H'
   |none=>none)
  |none=>none
def agB (all:List Oper) (env:Env) (H:List Blk):List Nat→Bool
 |[]=>true
 |i::r=>(match all[i]? with
  |some o=>optSame (qg G T own all o env H) ((o.dst).bind (look env))
  |none=>false)&&agB all env H r
def dstsOf (all:List Oper):List Nat:=all.filterMap (·.dst)
def sameOn (e1 e2:Env):List Nat→Bool
 |[]=>true
 |t::r=>optSame (lookB e1 t) (lookB e2 t)&&sameOn e1 e2 r
end
section
variable {P:Program} {G:Gl} {T:Tab} {own:List Nat} {nt:Nat} {C:Cx} {call:RC} {ρ:Option Nat}
theorem gOp_exG (hc:RCok P G call) {all:List Oper} {o:Oper} {env:Env} {H H':List Blk} {x:SV} {k:SV→List Blk→Prop} (h:gOp call G T own all o env H=some (x,H')) (hk:k x H'):exG P G T own all o env H k:=by
 unfold gOp at h
 unfold exG
 cases hgd:o.guard with
 |none=>
  simp only[hgd] at h
  exact doOp_okS hc h hk
 |some jw=>
  obtain⟨j,want⟩:=jw
  simp only[hgd] at h
  obtain⟨dj,h1,h⟩:=ob_eq h
  obtain⟨v,h2,h⟩:=ob_eq h
  rw[lookB_eq] at h2
  obtain⟨b,h3,h⟩:=ob_eq h
  refine⟨dj,h1,v,h2,b,h3,fun e=>?_,fun e=>?_⟩
  ·rw[e] at h;exact doOp_okS hc h hk
  ·rw[e] at h;cases h;exact hk
theorem evOps_ok (hc:RCok P G call) {all:List Oper}:∀ (l:List Oper) {env env':Env} {H H':List Blk} {k:Env→List Blk→Prop},evOps call G T own nt all l env H=some (env',H')→k env' H'→exOps P G T own nt all l env H k
 |[],env,env',H,H',k,h,hk=>by cases h;exact hk
 |o::r,env,env',H,H',k,h,hk=>by
  unfold evOps at h
  split at h
  ·rename_i x H1 hg
   split at h
   ·rename_i env1 hp
    have ih:=evOps_ok hc r h hk
    unfold gOp at hg
    unfold exOps
    cases hgd:o.guard with
    |none=>
     simp only[hgd] at hg
     exact doOp_okS (k:=fun x H'=>putK nt o.dst x env fun env'=>exOps P G T own nt all r env' H' k) hc hg (putD_ok hp ih)
    |some jw=>
     obtain⟨j,want⟩:=jw
     simp only[hgd] at hg
     obtain⟨dj,h1,hg⟩:=ob_eq hg
     obtain⟨v,h2,hg⟩:=ob_eq hg
     rw[lookB_eq] at h2
     obtain⟨b,h3,hg⟩:=ob_eq hg
     refine⟨dj,h1,v,h2,b,h3,fun e=>?_,fun e=>?_⟩
     ·rw[e] at hg;exact doOp_okS (k:=fun x H'=>putK nt o.dst x env fun env'=>exOps P G T own nt all r env' H' k) hc hg (putD_ok hp ih)
     ·rw[e] at hg;cases hg;exact putD_ok hp ih
   ·cases h
  ·cases h
theorem agB_ok {all:List Oper} {env:Env} {H:List Blk}:∀ {l:List Nat},agB G T own all env H l=true→AgAll G T own all env H l
 |[],_=>trivial
 |i::r,h=>by
  unfold agB at h
  rw[Bool.and_eq_true] at h
  obtain⟨h1,h2⟩:=h
  split at h1
  ·rename_i o ho
   exact⟨⟨o,ho,optSame_eq h1⟩,agB_ok h2⟩
  ·cases h1
theorem dr_doneK {all:List Oper} {n m:Nat} {ex:List Nat} {env:Env} {H:List Blk} {K:Env→List Blk→Prop} (hm:Nat.ble all.length m=true) (h:K env H):(DrP P G T own all) (n+1) m ex env H K:=fun L hL=>by
 have hall:∀ i o,all[i]? =some o→i∈L:=fun i o ho=>(hL i).2 (LP_iff.2 (.inl (by
  have h1:=(List.getElem?_eq_some_iff.1 ho).1
  have h2:=Nat.le_of_ble_eq_true hm
  omega)))
 exact .inr ⟨fun i o ho hn=>(hn (hall i o ho)).elim,.inl ⟨hall,h⟩⟩
theorem Dr.up {all:List Oper} {K:Env→List Blk→Prop}:∀ (n:Nat) {L:List Nat} {env:Env} {H:List Blk},Dr P G T own all n L env H K→Dr P G T own all (n+1) L env H K
 |0,_,_,_,h=>h.elim
 |n+1,L,env,H,h=>by
  rcases h with⟨i,o,v,h1,h2,h3,h4,h5,h6⟩|⟨h1,h2⟩
  ·exact .inl ⟨i,o,v,h1,h2,h3,h4,h5,Dr.up n h6⟩
  ·refine .inr ⟨h1,?_⟩
   rcases h2 with h2|⟨h2,h3⟩
   ·exact .inl h2
   ·exact .inr ⟨h2,fun j o a1 a2 a3=>exG_mono (fun x H' hx=>⟨hx.1,Dr.up n hx.2⟩) (h3 j o a1 a2 a3)⟩
theorem DrP.le {all:List Oper} {m:Nat} {ex:List Nat} {env:Env} {H:List Blk} {K:Env→List Blk→Prop} {n n':Nat} (hn:n≤n') (h:DrP P G T own all n m ex env H K):DrP P G T own all n' m ex env H K:=by
 induction hn with
 |refl=>exact h
 |step _ ih=>exact fun L hL=>Dr.up _ (ih L hL)
theorem DrP.monoK {all:List Oper} {m:Nat} {ex:List Nat} {env:Env} {H:List Blk} {K K':Env→List Blk→Prop} {n:Nat} (hk:∀ e h,K e h→K' e h) (h:DrP P G T own all n m ex env H K):DrP P G T own all n m ex env H K':=by
 have key:∀ (n:Nat) {L:List Nat} {env:Env} {H:List Blk},Dr P G T own all n L env H K→Dr P G T own all n L env H K':=by
  intro n
  induction n with
  |zero=>intro L env H h;exact h.elim
  |succ n ih=>
   intro L env H h
   rcases h with⟨i,o,v,h1,h2,h3,h4,h5,h6⟩|⟨h1,h2⟩
   ·exact .inl ⟨i,o,v,h1,h2,h3,h4,h5,ih h6⟩
   ·refine .inr ⟨h1,?_⟩
    rcases h2 with⟨h2,h3⟩|⟨h2,h3⟩
    ·exact .inl ⟨h2,hk _ _ h3⟩
    ·exact .inr ⟨h2,fun j o a1 a2 a3=>exG_mono (fun x H' hx=>⟨hx.1,ih hx.2⟩) (h3 j o a1 a2 a3)⟩
 exact fun L hL=>key n (h L hL)
theorem mem_dsts {all:List Oper} {i:Nat} {o:Oper} (ho:all[i]? =some o) {d:Nat} (hd:o.dst=some d):d∈dstsOf all:=
 List.mem_filterMap.2 ⟨o,List.mem_of_getElem? ho,hd⟩
theorem putE_look {all:List Oper} {i:Nat} {o:Oper} (ho:all[i]? =some o) {x:SV} {env:Env} {t:Nat} (ht:t∉dstsOf all):look (putE o.dst x env) t=look env t:=by
 cases hd:o.dst with
 |none=>rfl
 |some d=>
  show(if t=d then some x else look env t)=look env t
  rw[if_neg (fun e=>ht (by rw[e];exact mem_dsts ho hd))]
theorem sameOn_look {e1 e2:Env}:∀ {l:List Nat},sameOn e1 e2 l=true→∀ t∈l,look e1 t=look e2 t
 |t::r,h,s,hs=>by
  simp only[sameOn,Bool.and_eq_true] at h
  rcases List.mem_cons.1 hs with rfl|hs
  ·have:=optSame_eq h.1
   rwa[lookB_eq,lookB_eq] at this
  ·exact sameOn_look h.2 s hs
theorem common {P:Nat→Nat→Prop} (hP:∀ j n n',n≤n'→P n j→P n' j):∀ (l:List Nat),(∀ j∈l,∃ N,P N j)→∃ N,∀ j∈l,P N j
 |[],_=>⟨0,fun _ h=>by cases h⟩
 |j::r,h=>by
  obtain⟨N1,h1⟩:=h j (List.mem_cons_self ..)
  obtain⟨N2,h2⟩:=common hP r (fun j hj=>h j (List.mem_cons_of_mem _ hj))
  refine⟨max N1 N2,fun j' hj'=>?_⟩
  rcases List.mem_cons.1 hj' with rfl|hj'
  ·exact hP _ _ _ (Nat.le_max_left ..) h1
  ·exact hP _ _ _ (Nat.le_max_right ..) (h2 j' hj')
end
def evB (G:Gl) (env:Env):Operand→Option SV
 | .tmp t=>lookB env t
 |x=>ev G env x
theorem evB_eq {G:Gl} {env:Env} (x:Operand):evB G env x=ev G env x:=by
 cases x with
 |tmp t=>exact lookB_eq env t
 |_=>rfl
def ded:List Nat→Env→Env
 |_,[]=>[]
 |seen,(t,x)::r=>bif memN t seen then ded seen r else (t,x)::ded (t::seen) r
theorem ded_look:∀ (env:Env) (seen:List Nat) (t:Nat) (x:SV),look (ded seen env) t=some x→t∉seen∧look env t=some x
 |[],seen,t,x,h=>by cases h
 |(s,y)::r,seen,t,x,h=>by
  unfold ded at h
  cases hm:memN s seen with
  |true=>
   rw[hm,cond_true] at h
   obtain⟨h1,h2⟩:=ded_look r seen t x h
   refine⟨h1,?_⟩
   unfold look
   rw[if_neg (fun e=>h1 (by rw[e];exact memN_iff.1 hm))]
   exact h2
  |false=>
   rw[hm,cond_false] at h
   unfold look at h ⊢
   by_cases e:t=s
   ·rw[if_pos e] at h ⊢
    refine⟨fun hi=>?_,h⟩
    rw[e] at hi
    rw[memN_iff.2 hi] at hm
    cases hm
   ·rw[if_neg e] at h ⊢
    obtain⟨h1,h2⟩:=ded_look r (s::seen) t x h
    exact⟨fun hi=>h1 (List.mem_cons_of_mem _ hi),h2⟩
section
variable (call:RC) (G:Gl) (T:Tab) (own:List Nat) (nt:Nat)
end
section
variable {P:Program} {G:Gl} {T:Tab} {own:List Nat} {nt:Nat} {C:Cx} {call:RC} {ρ:Option Nat}
end
def frzVL (f:SV→Option SV):List SV→Option (List SV)
 |[]=>some []
 |x::r=>match f x with
  |some y=>(match frzVL f r with
   |some ys=>some (y::ys)
   |none=>none)
  |none=>none
def frzV (H:List Blk) (n:Nat):Nat→SV→Option SV
 |0,_=>none
 |d+1,x=>bif x.under n then some x else match x with
  | .agg fs=>(match frzVL (frzV H n d) fs with
   |some ys=>some (.agg ys)
   |none=>none)
  | .tuple fs=>(match frzVL (frzV H n d) fs with
   |some ys=>some (.tuple ys)
   |none=>none)
  | .list sz fs=>(match frzVL (frzV H n d) fs with
   |some ys=>some (.list sz ys)
   |none=>none)
  | .sl id g off len=>bif Nat.ble n id then (match H[id]? with
   |some (.cells g' sz vals)=>bif Nat.beq g g' then (match frzVL (frzV H n d) ((vals.drop off).take len) with
    |some ys=>some (.list sz ys)
    |none=>none) else none
   |_=>none) else none
  |_=>none
theorem frzVL_ok {H:List Blk} {n:Nat} {f:SV→Option SV} (hf:∀ x y,f x=some y→Frz H n [] x y):∀ {xs ys:List SV},frzVL f xs=some ys→FrzL H n [] xs ys
 |[],ys,h=>by cases h;exact .nil
 |x::r,ys,h=>by
  unfold frzVL at h
  split at h
  ·rename_i y hy
   split at h
   ·rename_i zs hzs
    cases h
    exact .cons _ _ _ _ (hf _ _ hy) (frzVL_ok hf hzs)
   ·cases h
  ·cases h
theorem frzV_ok {H:List Blk} {n:Nat}:∀ (d:Nat) (x y:SV),frzV H n d x=some y→Frz H n [] x y
 |0,x,y,h=>by cases h
 |d+1,x,y,h=>by
  unfold frzV at h
  cases hu:x.under n with
  |true=>rw[hu,cond_true] at h;cases h;exact .same _ hu
  |false=>
   rw[hu,cond_false] at h
   cases x with
   |agg fs=>
    simp only at h
    split at h
    ·rename_i ys hy;cases h;exact .agg _ _ (frzVL_ok (frzV_ok d) hy)
    ·cases h
   |tuple fs=>
    simp only at h
    split at h
    ·rename_i ys hy;cases h;exact .tuple _ _ (frzVL_ok (frzV_ok d) hy)
    ·cases h
   |list sz fs=>
    simp only at h
    split at h
    ·rename_i ys hy;cases h;exact .list _ _ _ (frzVL_ok (frzV_ok d) hy)
    ·cases h
   |sl id g off len=>
    simp only at h
    cases hb:Nat.ble n id with
    |false=>rw[hb] at h;cases h
    |true=>
     rw[hb,cond_true] at h
     split at h
     ·rename_i g' sz vals hH
      cases hg:Nat.beq g g' with
      |false=>rw[hg] at h;cases h
      |true=>
       rw[hg,cond_true] at h
       have hg:=Nat.eq_of_beq_eq_true hg
       subst hg
       split at h
       ·rename_i ys hy;cases h;exact .sl _ _ _ _ _ _ _ hH (Nat.le_of_ble_eq_true hb) (by simp) (frzVL_ok (frzV_ok d) hy)
       ·cases h
     ·cases h
   |_=>cases h
def Blk.underB (n:Nat):Blk→Bool
 | .cells _ _ vals=>bif longB vals 1000 then flatC vals 255 else SV.underL n vals
 |b=>b.under n
theorem Blk.underB_under {n:Nat} {b:Blk} (h:b.underB n=true):b.under n=true:=by
 cases b with
 |cells g sz vals=>
  simp only[Blk.underB] at h
  cases h1:longB vals 1000 with
  |true=>rw[h1,cond_true] at h;exact flatC_under h
  |false=>rw[h1,cond_false] at h;exact h
 |_=>exact h
def gcR (n0:Nat) (x:SV) (H':List Blk):SV×List Blk:=bif Nat.ble n0 H'.length&&(H'.take n0).all (·.underB n0) then (match frzV H' n0 12 x with
 |some y=>(y,H'.take n0)
 |none=>(x,H')) else (x,H')
theorem gcR_fin {C:Cx} {H':List Blk} {x:SV} {n0:Nat} (hC:C.H.length=n0):Fin C H' x (fun r H2=>H2=(gcR n0 x H').2∧r=(gcR n0 x H').1):=by
 unfold gcR
 cases hb:(Nat.ble n0 H'.length&&(H'.take n0).all (·.underB n0)) with
 |false=>exact Fin.same ⟨rfl,rfl⟩
 |true=>
  simp only[cond_true]
  simp only[Bool.and_eq_true] at hb
  obtain⟨h1,h3⟩:=hb
  have hlen:(H'.take n0).length=n0:=by rw[List.length_take];exact Nat.min_eq_left (Nat.le_of_ble_eq_true h1)
  have hcl:closed (H'.take n0):=fun B hB=>by rw[hlen];exact Blk.underB_under (List.all_eq_true.1 h3 B hB)
  cases hy:frzV H' n0 12 x with
  |none=>exact Fin.same ⟨rfl,rfl⟩
  |some y=>
   have hfz:Frz (H'.take n0++H'.drop n0) n0 [] x y:=by rw[List.take_append_drop];exact frzV_ok _ _ _ hy
   have key:Fin C (H'.take n0++H'.drop n0) x (fun r H2=>H2=H'.take n0∧r=y):=Fin.tellN (fun _ _ h=>h) hlen hC hcl hfz ⟨rfl,rfl⟩
   rwa[List.take_append_drop] at key
section
variable (P:Program) (G:Gl) (T:Tab) (ow:FuncId→List Nat) (gc:FuncId→Bool) (ov:RC) (fuel:Nat)
end
theorem ACall.lift {P:Program} {G0 G:Gl} {f:FuncId} {b:Bool} (C0:Cx) (hb:G0.base=some C0) (hb2:G.base=some C0) (h0:C0.H=[]) (hG:GClosed G0) (hs:∀ p∈G0.l,p∈G.l) (h:ACall P G0 f [] [] (fun r _=>r= .bool b)) (H:List Blk):ACall P G f [] H (fun r H'=>H'=H∧r= .bool b):=by
 refine⟨h.1,fun c vs hH hc hg hv=>?_⟩
 subst hH
 have h00:=Cx.cut (θ:=c.θ) (H:=[]) (X:=c.H) (w:=c.w) hc (fun B hB=>by cases hB)
 have hg0:GOK G0 ⟨c.θ,[],c.w⟩:=⟨fun p hp=>(Rep.cut_both (θ:=c.θ) (H:=[]) (X:=c.H) (w:=c.w)).1 _ _ (hg.1 p (hs p hp)) (hG p hp),fun C1 e=>by
  rw[hb] at e
  cases e
  exact h00.2 C0 (by rw[h0];exact Nat.le_refl _) (hg.2 C0 hb2)⟩
 have hv0:RepL ⟨c.θ,[],c.w⟩ [] vs:=hv
 refine(h.2 ⟨c.θ,[],c.w⟩ vs rfl h00.1 hg0 hv0).mono ?_
 rintro e w' ⟨v,x,c',e1,e2,e3,e4,e5,e6⟩
 subst e2
 have hold:∀ k,k<c.w.heap.size→c'.w.heap[k]? =c.w.heap[k]? :=fun k hk=>e6.old k hk (fun⟨id,o,⟨B,hB,_⟩,_⟩=>by cases hB)
 obtain⟨g1,g2⟩:=Cx.world hc (w':=c'.w) hold e6.size e6.os e6.tape e6.output
 exact⟨v,x,{ c with w:=c'.w},e1,rfl,⟨rfl,e3⟩,g2,by rw[e3] at e5 ⊢;exact e5,g1⟩
end
theorem ACall.of_clone {P:Program} {G:Gl} {f:FuncId} (hf:∃ fn,P.funcs[f]? =some fn∧(fn.name== "runtime.NumGoroutine")=false∧fn.body.isNone=false)
 (hc:∀ (b:Nat) (es:Array MapEntry) (clock:Nat) (w:World),w.heap[b]? =some (.map es clock)→Calls P f #[.map (some b)] w fun e w'=>e= .returned (.map (some w.heap.size))∧w'=w.alloc (.map es clock))
 (id:Nat) (H:List Blk) (kd:Option IntKind) (es:List (SV×SV)) (hH:H[id]? =some (.map kd es)):ACall P G f [.map id] H (fun r H'=>H'=H++[.map kd es]∧r= .map H.length):=by
 refine⟨hf,fun c vs e1 hh hG hv=>?_⟩
 subst e1
 obtain⟨v,us,hv1,hv2,rfl⟩:=RepL.cons_iff.1 hv
 rw[RepL.nil_iff.1 hv2]
 simp only[Rep,hH] at hv1
 obtain⟨_,b,hθ,rfl⟩:=hv1
 obtain⟨b',ents,clk,h1,h2,h3,h4,h5⟩:=hh.blk id _ hH
 rw[hθ] at h1;cases h1
 refine(callsIn_wide (n:=0)).2 ?_
 refine(hc b ents clk c.w h2).mono ?_
 rintro e w' ⟨rfl,rfl⟩
 have hnew:(c.w.alloc (.map ents clk)).heap[c.w.heap.size]? =some (.map ents clk):=heap_alloc_new c.w _
 obtain⟨g1,g2⟩:=Cx.fresh hh (w':=c.w.alloc (.map ents clk)) c.w.heap.size (Nat.le_refl _) 0 (some (c.w.heap.size,0)) (.inr rfl) (.map kd es) (fun b hb=>Go.RowKit.Below.heap_alloc _ _ b hb) (by simp) rfl rfl rfl (fun hg=>⟨c.w.heap.size,ents,clk,by simp,hnew,RepE.grow hg _ _ h3,h4,h5⟩)
 refine⟨.map (some c.w.heap.size),.map c.H.length,_,rfl,rfl,⟨rfl,rfl⟩,g2,?_,g1⟩
 simp only[Rep]
 refine⟨rfl,?_⟩
 simp
def ErrAt (C0:Cx):Prop:=C0.H=[]∧∃ ev,C0.w.cell? ⟨0,0,none⟩=some ev∧(ev= .nilIface∨∃ te pe,ev= .iface te pe)
section
open Go Go.ChangeShapes Go.WideShapes Go.RowKit
theorem own:ownKnob Tryz.prog.godebug=none:=by kernel_rfl
theorem laid:laidOutB Tryz.prog=true:=by kernel_rfl
theorem gES:Tryz.prog.globalNamed "strconv.ErrSyntax" =some 0:=by kernel_rfl
theorem gESType:(Tryz.prog.globals[0]?).map (·.type)=some 103:=by kernel_rfl
theorem cells214:Tryz.prog.cellsOf 214=1:=by kernel_rfl
theorem cells9:Tryz.prog.cellsOf 9=1:=by kernel_rfl
theorem star: "*" ++ "errors.errorString" = "*errors.errorString" :=by decide
theorem row212 (u:TypeId) (h:Tryz.prog.typeName? 3 u=some "*errors.errorString"):u=212:=
 typeName_ptr_named (nm:= "errors.errorString") (by rw[star];kernel_rfl) (by kernel_rfl) (by decide) u (by rw[star];exact h)
def GB (W:World):Gl:=⟨[],some (rdC W)⟩
theorem gclosedB (W:World):GClosed (GB W):=fun p hp=>by cases hp
theorem gokB (W:World):GOK (GB W) (rdC W):=⟨fun p hp=>(by cases hp),fun C0 h=>(by cases h;exact Grow.refl _)⟩
theorem errAt {W:World} (h:laidMetH Tryz.prog [("math/bits.deBruijn32tab",Rows.laid_math_bits_deBruijn32tab),("math/bits.deBruijn64tab",Rows.laid_math_bits_deBruijn64tab),("internal/strconv.uint64pow10",Rows.laid_internal_strconv_uint64pow10),("strconv.ErrRange",Rows.laid_strconv_ErrRange),("strconv.ErrSyntax",Rows.laid_strconv_ErrSyntax)] W):ErrAt (rdC W):=by
 have h2:laidMet Tryz.prog [("strconv.ErrSyntax",Rows.laid_strconv_ErrSyntax)] W:=laidMet.tail (laidMet.tail (laidMet.tail (laidMet.tail h)))
 obtain⟨a0,s0,hv0,-,-,-⟩:=laid_sentinel h2 gES gESType Tryz.underlying103 row212 Tryz.underlying212 Tryz.underlying214 rfl rfl Tryz.underlying9 cells214 cells9
 exact⟨rfl,_,(by have h0:=World.var?_cell gES hv0 0;show W.cell? _=_;simpa using h0),.inr ⟨_,_,rfl⟩⟩
section
variable {H:Type} {enc:TypeId×Value→H} {W:World} {sp:Nat→Bool}
theorem law_callsG {P:Program} {G:Gl} {f:FuncId} {args:List SV} {vs:List Value} (h:ACall P G f args [] (fun r H'=>H'=[]∧r= .bool true)) (hg:GOK G (rdC W)) (hv:RepL (rdC W) args vs) {R:World→Prop} (hR:∀ W',Below W.heap.size W W'→R W'):
 Calls P f vs.toArray W fun e W'=>∃ v,e= .returned v∧v= .bool true∧R W':=by
 refine(callsIn_wide (n:=0)).1 ((h.2 (rdC W) vs rfl (rdC_ok W) hg hv).mono ?_)
 rintro e w' ⟨v,x,c',rfl,hw,⟨_,rfl⟩,_,hx,hg⟩
 simp only[Rep] at hx
 exact⟨v,rfl,hx,hR _ (Grow.below hg hw)⟩
end
def valsOf:DataW Unit→List Value
 | .agg l=>l.map fun
  | .lit (.int k n)=> .int k n
  |_=> .nilFunc
 |_=>[]
def putVals (vs:List Value):Obj→Obj
 | .cells _ t fr=> .cells vs.toArray t fr
 |o=>o
noncomputable def laidWorld (os:Os):World:=
 { World.holding Tryz.prog os ⟨#[],#[],[]⟩ with heap:=(((((((World.holding Tryz.prog os ⟨#[],#[],[]⟩).heap.modify 0 (putVals [.iface 212 (.pointer (some ⟨(World.holding Tryz.prog os ⟨#[],#[],[]⟩).heap.size,0,none⟩))])).modify 1 (putVals [.iface 212 (.pointer (some ⟨(World.holding Tryz.prog os ⟨#[],#[],[]⟩).heap.size+1,0,none⟩))])).modify 2 (putVals (valsOf Rows.laid_internal_strconv_uint64pow10))).modify 3 (putVals (valsOf Rows.laid_math_bits_deBruijn32tab))).modify 4 (putVals (valsOf Rows.laid_math_bits_deBruijn64tab))).push
  (.cells #[.string ⟨#[105,110,118,97,108,105,100,32,115,121,110,116,97,120]⟩] 214 (0,0))).push (.cells #[.string ⟨#[118,97,108,117,101,32,111,117,116,32,111,102,32,114,97,110,103,101]⟩] 214 (0,0))}
end
end Go.Proofs.YtedejleokilohaaGreatDoor
section
open Go
namespace Go.Proofs
open Go.Shelf
def Tryz.laysC172_ren:Go.Shelf.Ren:=⟨fun|172=>54|244=>102|245=>103|247=>138|279=>139|280=>140|281=>141|282=>142|287=>158|316=>159|171=>55|205=>160|321=>168|322=>169|243=>104|246=>143|283=>161|284=>162|285=>163|286=>164|129=>133|317=>170|318=>171|319=>172|320=>173|337=>174|338=>175|n=>n,fun|9=>9|3=>3|75=>103|76=>104|4=>4|5=>5|167=>178|37=>179|0=>0|85=>180|2=>2|168=>182|53=>173|175=>196|46=>124|210=>200|127=>211|145=>214|143=>212|21=>21|171=>202|173=>204|212=>216|51=>171|20=>20|213=>217|232=>219|233=>220|80=>119|n=>n,fun|15=>0|16=>1|17=>2|18=>3|19=>4|n=>n⟩
theorem Tryz.laysC172:Go.Proofs.LaysC.n172 Tryz.prog Tryz.laysC172_ren:={
 mixed:=by kernel_rfl
 f129:=Tryz.func133.trans (congrArg some (by kernel_rfl))
 f171:=Tryz.func55.trans (congrArg some (by kernel_rfl))
 f172:=Tryz.func54.trans (congrArg some (by kernel_rfl))
 f205:=Tryz.func160.trans (congrArg some (by kernel_rfl))
 f243:=Tryz.func104.trans (congrArg some (by kernel_rfl))
 f244:=Tryz.func102.trans (congrArg some (by kernel_rfl))
 f245:=Tryz.func103.trans (congrArg some (by kernel_rfl))
 f246:=Tryz.func143.trans (congrArg some (by kernel_rfl))
 f247:=Tryz.func138.trans (congrArg some (by kernel_rfl))
 f279:=Tryz.func139.trans (congrArg some (by kernel_rfl))
 f280:=Tryz.func140.trans (congrArg some (by kernel_rfl))
 f281:=Tryz.func141.trans (congrArg some (by kernel_rfl))
 f282:=Tryz.func142.trans (congrArg some (by kernel_rfl))
 f283:=Tryz.func161.trans (congrArg some (by kernel_rfl))
 f284:=Tryz.func162.trans (congrArg some (by kernel_rfl))
 f285:=Tryz.func163.trans (congrArg some (by kernel_rfl))
 f286:=Tryz.func164.trans (congrArg some (by kernel_rfl))
 f287:=Tryz.func158.trans (congrArg some (by kernel_rfl))
 f316:=Tryz.func159.trans (congrArg some (by kernel_rfl))
 f317:=Tryz.func170.trans (congrArg some (by kernel_rfl))
 f318:=Tryz.func171.trans (congrArg some (by kernel_rfl))
 f319:=Tryz.func172.trans (congrArg some (by kernel_rfl))
 f320:=Tryz.func173.trans (congrArg some (by kernel_rfl))
 f321:=Tryz.func168.trans (congrArg some (by kernel_rfl))
 f322:=Tryz.func169.trans (congrArg some (by kernel_rfl))
 f337:=Tryz.func174.trans (congrArg some (by kernel_rfl))
 f338:=Tryz.func175.trans (congrArg some (by kernel_rfl))
 t0:=Tryz.underlying0
 a0:=Tryz.isAgg0
 z0:=Tryz.sizeOf0
 v0:=Tryz.zeroValue0
 t2:=Tryz.underlying2
 a2:=Tryz.isAgg2
 z2:=Tryz.sizeOf2
 v2:=Tryz.zeroValue2
 t3:=Tryz.underlying3
 a3:=Tryz.isAgg3
 z3:=Tryz.sizeOf3
 v3:=Tryz.zeroValue3
 t4:=Tryz.underlying4
 a4:=Tryz.isAgg4
 z4:=Tryz.sizeOf4
 v4:=Tryz.zeroValue4
 t5:=Tryz.underlying5
 a5:=Tryz.isAgg5
 z5:=Tryz.sizeOf5
 v5:=Tryz.zeroValue5
 t9:=Tryz.underlying9
 a9:=Tryz.isAgg9
 z9:=Tryz.sizeOf9
 v9:=Tryz.zeroValue9
 t20:=Tryz.underlying20
 a20:=Tryz.isAgg20
 z20:=Tryz.sizeOf20
 v20:=Tryz.zeroValue20
 t21:=Tryz.underlying21
 a21:=Tryz.isAgg21
 z21:=Tryz.sizeOf21
 v21:=Tryz.zeroValue21
 t37:=Tryz.underlying179
 a37:=Tryz.isAgg179
 z37:=Tryz.sizeOf179
 v37:=Tryz.zeroValue179
 t46:=Tryz.underlying124
 a46:=Tryz.isAgg124
 z46:=Tryz.sizeOf124
 v46:=Tryz.zeroValue124
 t51:=Tryz.underlying171
 a51:=Tryz.isAgg171
 z51:=Tryz.sizeOf171
 v51:=Tryz.zeroValue171
 t53:=Tryz.underlying173
 a53:=Tryz.isAgg173
 z53:=Tryz.sizeOf173
 v53:=Tryz.zeroValue173
 t75:=Tryz.underlying103
 a75:=Tryz.isAgg103
 z75:=Tryz.sizeOf103
 v75:=Tryz.zeroValue103
 t76:=Tryz.underlying104
 a76:=Tryz.isAgg104
 z76:=Tryz.sizeOf104
 v76:=Tryz.zeroValue104
 t85:=Tryz.underlying180
 a85:=Tryz.isAgg180
 z85:=Tryz.sizeOf180
 v85:=Tryz.zeroValue180
 t127:=Tryz.underlying211
 a127:=Tryz.isAgg211
 z127:=Tryz.sizeOf211
 v127:=Tryz.zeroValue211
 t143:=Tryz.underlying212
 a143:=Tryz.isAgg212
 z143:=Tryz.sizeOf212
 v143:=Tryz.zeroValue212
 t145:=Tryz.underlying214
 a145:=Tryz.isAgg214
 z145:=Tryz.sizeOf214
 v145:=Tryz.zeroValue214
 t167:=Tryz.underlying178
 a167:=Tryz.isAgg178
 z167:=Tryz.sizeOf178
 v167:=Tryz.zeroValue178
 t168:=Tryz.underlying182
 a168:=Tryz.isAgg182
 z168:=Tryz.sizeOf182
 v168:=Tryz.zeroValue182
 t171:=Tryz.underlying202
 a171:=Tryz.isAgg202
 z171:=Tryz.sizeOf202
 v171:=Tryz.zeroValue202
 t173:=Tryz.underlying204
 a173:=Tryz.isAgg204
 z173:=Tryz.sizeOf204
 v173:=Tryz.zeroValue204
 t175:=Tryz.underlying196
 a175:=Tryz.isAgg196
 z175:=Tryz.sizeOf196
 v175:=Tryz.zeroValue196
 t210:=Tryz.underlying200
 a210:=Tryz.isAgg200
 z210:=Tryz.sizeOf200
 v210:=Tryz.zeroValue200
 t212:=Tryz.underlying216
 a212:=Tryz.isAgg216
 z212:=Tryz.sizeOf216
 v212:=Tryz.zeroValue216
 t213:=Tryz.underlying217
 a213:=Tryz.isAgg217
 z213:=Tryz.sizeOf217
 t232:=Tryz.underlying219
 a232:=Tryz.isAgg219
 z232:=Tryz.sizeOf219
 v232:=Tryz.zeroValue219
 t233:=Tryz.underlying220
 a233:=Tryz.isAgg220
 z233:=Tryz.sizeOf220
 v233:=Tryz.zeroValue220
 g15:=by kernel_rfl
 g16:=by kernel_rfl
 g17:=by kernel_rfl
 g18:=by kernel_rfl
 g19:=by kernel_rfl
 t80:=Tryz.underlying119
 a80:=Tryz.isAgg119
 z80:=Tryz.sizeOf119
 v80:=Tryz.zeroValue119
 i0:=by kernel_rfl
 i2:=by kernel_rfl
 i3:=by kernel_rfl
 i4:=by kernel_rfl
 i5:=by kernel_rfl
 i9:=by kernel_rfl
 i20:=by kernel_rfl
 i21:=by kernel_rfl
 i37:=by kernel_rfl
 i46:=by kernel_rfl
 i51:=by kernel_rfl
 i53:=by kernel_rfl
 i75:=by kernel_rfl
 i76:=by kernel_rfl
 i80:=by kernel_rfl
 i85:=by kernel_rfl
 i127:=by kernel_rfl
 i143:=by kernel_rfl
 i145:=by kernel_rfl
 i167:=by kernel_rfl
 i168:=by kernel_rfl
 i171:=by kernel_rfl
 i173:=by kernel_rfl
 i175:=by kernel_rfl
 i210:=by kernel_rfl
 i212:=by kernel_rfl
 i232:=by kernel_rfl
 i233:=by kernel_rfl
 m15:=by kernel_rfl
 m16:=by kernel_rfl
 m17:=by kernel_rfl
 m18:=by kernel_rfl
 m19:=by kernel_rfl
 c0:=by kernel_rfl
 c2:=by kernel_rfl
 c3:=by kernel_rfl
 c4:=by kernel_rfl
 c5:=by kernel_rfl
 c9:=by kernel_rfl
 c20:=by kernel_rfl
 c21:=by kernel_rfl
 c37:=by kernel_rfl
 c46:=by kernel_rfl
 c51:=by kernel_rfl
 c53:=by kernel_rfl
 c75:=by kernel_rfl
 c76:=by kernel_rfl
 c80:=by kernel_rfl
 c85:=by kernel_rfl
 c127:=by kernel_rfl
 c143:=by kernel_rfl
 c145:=by kernel_rfl
 c167:=by kernel_rfl
 c168:=by kernel_rfl
 c171:=by kernel_rfl
 c173:=by kernel_rfl
 c175:=by kernel_rfl
 c210:=by kernel_rfl
 c212:=by kernel_rfl
 c213:=by kernel_rfl
 c232:=by kernel_rfl
 c233:=by kernel_rfl}
open Go.RowKit in
def Tryz.laysW5_ren:Go.Shelf.Ren:=⟨fun|5=>37|7=>86|n=>n,fun|23=>86|25=>9|n=>n,fun|n=>n⟩
theorem Tryz.laysW5:SlLaysW.n5 Tryz.prog Tryz.laysW5_ren:={
 mixed:=by kernel_rfl
 f5:=⟨ "maps.Clone[map[string]int,string,int]",by decide,by kernel_rfl⟩
 f7:=Tryz.func86
 t4:=Tryz.underlying4
 a4:=Tryz.isAgg4
 z4:=Tryz.sizeOf4
 v4:=Tryz.zeroValue4
 t20:=Tryz.underlying20
 a20:=Tryz.isAgg20
 z20:=Tryz.sizeOf20
 v20:=Tryz.zeroValue20
 t23:=Tryz.underlying86
 a23:=Tryz.isAgg86
 z23:=Tryz.sizeOf86
 v23:=Tryz.zeroValue86}
theorem Tryz.maps_Clone (b:Nat) (es:Array MapEntry) (clock:Nat) (w:World) (hb:w.heap[b]? =some (.map es clock)):
 Calls Tryz.prog 37 #[.map (some b)] w fun e w'=>e= .returned (.map (some w.heap.size))∧w'=w.alloc (.map es clock):=AnyW.maps_Clone Tryz.laysW5 b es clock w hb
end Go.Proofs
end
namespace Go.Proofs.YtedejleokilohaaGreatDoor
open Go
end Go.Proofs.YtedejleokilohaaGreatDoor
section
open Go
namespace Go.Proofs
open Go.Shelf
def Tryz.laysM171_ren:Go.Shelf.Ren:=⟨fun|171=>55|243=>104|246=>143|283=>161|284=>162|285=>163|286=>164|129=>133|317=>170|318=>171|319=>172|320=>173|337=>174|338=>175|n=>n,fun|3=>3|9=>9|2=>2|4=>4|171=>202|0=>0|53=>173|37=>179|5=>5|173=>204|212=>216|51=>171|20=>20|213=>217|46=>124|232=>219|233=>220|n=>n,fun|17=>2|18=>3|19=>4|n=>n⟩
theorem Tryz.laysM171:Go.Proofs.LaysM.n171 Tryz.prog Tryz.laysM171_ren:={
 mixed:=by kernel_rfl
 f129:=Tryz.func133.trans (congrArg some (by kernel_rfl))
 f171:=Tryz.func55.trans (congrArg some (by kernel_rfl))
 f243:=Tryz.func104.trans (congrArg some (by kernel_rfl))
 f246:=Tryz.func143.trans (congrArg some (by kernel_rfl))
 f283:=Tryz.func161.trans (congrArg some (by kernel_rfl))
 f284:=Tryz.func162.trans (congrArg some (by kernel_rfl))
 f285:=Tryz.func163.trans (congrArg some (by kernel_rfl))
 f286:=Tryz.func164.trans (congrArg some (by kernel_rfl))
 f317:=Tryz.func170.trans (congrArg some (by kernel_rfl))
 f318:=Tryz.func171.trans (congrArg some (by kernel_rfl))
 f319:=Tryz.func172.trans (congrArg some (by kernel_rfl))
 f320:=Tryz.func173.trans (congrArg some (by kernel_rfl))
 f337:=Tryz.func174.trans (congrArg some (by kernel_rfl))
 f338:=Tryz.func175.trans (congrArg some (by kernel_rfl))
 t0:=Tryz.underlying0
 a0:=Tryz.isAgg0
 z0:=Tryz.sizeOf0
 v0:=Tryz.zeroValue0
 t2:=Tryz.underlying2
 a2:=Tryz.isAgg2
 z2:=Tryz.sizeOf2
 v2:=Tryz.zeroValue2
 t3:=Tryz.underlying3
 a3:=Tryz.isAgg3
 z3:=Tryz.sizeOf3
 v3:=Tryz.zeroValue3
 t4:=Tryz.underlying4
 a4:=Tryz.isAgg4
 z4:=Tryz.sizeOf4
 v4:=Tryz.zeroValue4
 t5:=Tryz.underlying5
 a5:=Tryz.isAgg5
 z5:=Tryz.sizeOf5
 v5:=Tryz.zeroValue5
 t9:=Tryz.underlying9
 a9:=Tryz.isAgg9
 z9:=Tryz.sizeOf9
 v9:=Tryz.zeroValue9
 t20:=Tryz.underlying20
 a20:=Tryz.isAgg20
 z20:=Tryz.sizeOf20
 v20:=Tryz.zeroValue20
 t37:=Tryz.underlying179
 a37:=Tryz.isAgg179
 z37:=Tryz.sizeOf179
 v37:=Tryz.zeroValue179
 t46:=Tryz.underlying124
 a46:=Tryz.isAgg124
 z46:=Tryz.sizeOf124
 v46:=Tryz.zeroValue124
 t51:=Tryz.underlying171
 a51:=Tryz.isAgg171
 z51:=Tryz.sizeOf171
 v51:=Tryz.zeroValue171
 t53:=Tryz.underlying173
 a53:=Tryz.isAgg173
 z53:=Tryz.sizeOf173
 v53:=Tryz.zeroValue173
 t171:=Tryz.underlying202
 a171:=Tryz.isAgg202
 z171:=Tryz.sizeOf202
 v171:=Tryz.zeroValue202
 t173:=Tryz.underlying204
 a173:=Tryz.isAgg204
 z173:=Tryz.sizeOf204
 v173:=Tryz.zeroValue204
 t212:=Tryz.underlying216
 a212:=Tryz.isAgg216
 z212:=Tryz.sizeOf216
 v212:=Tryz.zeroValue216
 t213:=Tryz.underlying217
 a213:=Tryz.isAgg217
 z213:=Tryz.sizeOf217
 t232:=Tryz.underlying219
 a232:=Tryz.isAgg219
 z232:=Tryz.sizeOf219
 v232:=Tryz.zeroValue219
 t233:=Tryz.underlying220
 a233:=Tryz.isAgg220
 z233:=Tryz.sizeOf220
 v233:=Tryz.zeroValue220
 g17:=by kernel_rfl
 g18:=by kernel_rfl
 g19:=by kernel_rfl
 i0:=by kernel_rfl
 i2:=by kernel_rfl
 i3:=by kernel_rfl
 i4:=by kernel_rfl
 i5:=by kernel_rfl
 i9:=by kernel_rfl
 i20:=by kernel_rfl
 i37:=by kernel_rfl
 i46:=by kernel_rfl
 i51:=by kernel_rfl
 i53:=by kernel_rfl
 i171:=by kernel_rfl
 i173:=by kernel_rfl
 i212:=by kernel_rfl
 i232:=by kernel_rfl
 i233:=by kernel_rfl
 m17:=by kernel_rfl
 m18:=by kernel_rfl
 m19:=by kernel_rfl}
open Go.RowKit Go.Sort Go.Lib in
theorem Tryz.strconv_Itoa (n:Int) (h0: -9223372036854775808≤n) (h1:n≤9223372036854775807) (w:World) (htab:Lib.TabIs Tryz.prog w "internal/strconv.uint64pow10" .u64 Lib.pow10Tab):
 Calls Tryz.prog 55 #[.int .i64 n] w fun e w'=>e= .returned (.string ⟨(Lib.itoa n).toArray⟩)∧∃ k os,w'=grow (w.drewN k) os:=Any.strconv_Itoa Tryz.laysM171 n h0 h1 w htab
open Go.RowKit Go.Sort Go.Lib in
theorem Tryz.strconv_Atoi_ok (s:ByteArray) (hmax:s.size≤9223372036854775806) (v:Int) (h:Lib.atoiAll s.data.toList= .ok v) (w:World):
 Calls Tryz.prog 54 #[.string s] w fun e w'=>e= .returned (.tuple #[.int .i64 v,.nilIface])∧(w'=w∨∃ t,w'=Lib.bytesWorld w 5 t):=Any.strconv_Atoi_ok Tryz.laysC172 s hmax v h w
open Go.RowKit Go.Sort Go.Lib in
theorem Tryz.strconv_Atoi_bad (s:ByteArray) (hlim:s.size≤281474976710656) (h:Lib.atoiAll s.data.toList=Lib.atoiAll []) (ev:Value) (w:World) (hv:w.cell? ⟨0,0,none⟩=some ev) (hev:ev= .nilIface∨∃ te pe,ev= .iface te pe):
 Calls Tryz.prog 54 #[.string s] w fun e w'=>∃ N,e= .returned (.tuple #[.int .i64 0,.iface 182 (.pointer (some ⟨N,0,none⟩))])∧w.heap.size≤N∧w'.heap[N]? =some (.cells #[.string ⟨#[65,116,111,105]⟩,.string s,ev] 200 (0,0))∧Below w.heap.size w w':=Any.strconv_Atoi_syntax Tryz.laysC172 s hlim h ev w hv hev
open Go.RowKit Go.Sort Go.Lib in
theorem Tryz.strconv_Atoi_range (s:ByteArray) (hlim:s.size≤281474976710656) (h:Lib.atoiAll s.data.toList= .range) (ev:Value) (w:World) (hv:w.cell? ⟨1,0,none⟩=some ev) (hev:ev= .nilIface∨∃ te pe,ev= .iface te pe):
 Calls Tryz.prog 54 #[.string s] w fun e w'=>∃ N,e= .returned (.tuple #[.int .i64 (Lib.atoiSat s.data.toList),.iface 182 (.pointer (some ⟨N,0,none⟩))])∧w.heap.size≤N∧w'.heap[N]? =some (.cells #[.string ⟨#[65,116,111,105]⟩,.string s,ev] 200 (0,0))∧Below w.heap.size w w':=Any.strconv_Atoi_range Tryz.laysC172 s hlim h ev w hv hev
end Go.Proofs
end
namespace Go.Proofs.YtedejleokilohaaGreatDoor
open Go
structure LibAt (C0:Cx):Prop where
 h:C0.H=[]
 es:∃ ev,C0.w.cell? ⟨0,0,none⟩=some ev∧(ev= .nilIface∨∃ te pe,ev= .iface te pe)
 er:∃ ev,C0.w.cell? ⟨1,0,none⟩=some ev∧(ev= .nilIface∨∃ te pe,ev= .iface te pe)
 tab:Lib.TabIs Tryz.prog C0.w "internal/strconv.uint64pow10" .u64 Lib.pow10Tab
theorem see_cell {C0 c:Cx} (h0:C0.H=[]) (hg:Grow C0 c) {k:Nat} {v:Value} (h:C0.w.cell? ⟨k,0,none⟩=some v):c.w.cell? ⟨k,0,none⟩=some v:=by
 have hlt:k<C0.w.heap.size:=Lib.lt_of_cell h
 have hold:=hg.old k hlt (fun⟨id,o,⟨B,hB,_⟩,_⟩=>by rw[h0] at hB;cases hB)
 rw[← h]
 unfold World.cell?
 rw[hold]
theorem see_tab {C0 c:Cx} (h0:C0.H=[]) (hg:Grow C0 c) {n:String} {k:IntKind} {zs:List Int} (h:Lib.TabIs Tryz.prog C0.w n k zs):Lib.TabIs Tryz.prog c.w n k zs:=by
 unfold Lib.TabIs World.var? at h ⊢
 cases hg2:Tryz.prog.globalNamed n with
 |none=>rw[hg2] at h;cases h
 |some g=>
  rw[hg2] at h
  simp only[Option.bind_some] at h ⊢
  split at h
  ·rename_i cs T fr hc
   have hlt:g<C0.w.heap.size:=(Array.getElem?_eq_some_iff.1 hc).1
   have hold:=hg.old g hlt (fun⟨id,o,⟨B,hB,_⟩,_⟩=>by rw[h0] at hB;cases hB)
   rw[hold,hc]
   exact h
  ·cases h
theorem ACall.of_plain {P:Program} {G:Gl} {f:FuncId} {args:List SV} {H:List Blk} {R:SV→Prop} (hf:∃ fn,P.funcs[f]? =some fn∧(fn.name== "runtime.NumGoroutine")=false∧fn.body.isNone=false)
 (hc:∀ (c:Cx) vs,GOK G c→RepL c args vs→Calls P f vs.toArray c.w fun e w'=>∃ v x,e= .returned v∧(∀ c,Rep c x v)∧R x∧Go.RowKit.Below c.w.heap.size c.w w'):
 ACall P G f args H (fun r H'=>H'=H∧R r):=by
 refine⟨hf,fun c vs e1 hh hG hv=>?_⟩
 subst e1
 refine(callsIn_wide (n:=0)).2 ?_
 refine(hc c vs hG hv).mono ?_
 rintro e w' ⟨v,x,rfl,hx,hr,hb⟩
 obtain⟨g1,g2⟩:=Cx.world hh (w':=w') (fun b h=>hb.block b h) hb.size hb.os hb.tape hb.output
 exact⟨v,x,{ c with w:=w'},rfl,rfl,⟨rfl,hr⟩,g2,hx _,g1⟩
theorem nDigits_le:∀ (k u:Nat),u<10 ^ (k+1)→Lib.nDigits u≤k+1
 |0,u,h=>by rw[Lib.nDigits_small (by simpa using h)];exact Nat.le_refl _
 |k+1,u,h=>by
  by_cases hu:u<10
  ·rw[Lib.nDigits_small hu];omega
  ·rw[Lib.nDigits_big hu]
   have:=nDigits_le k (u / 10) (by rw[Nat.pow_succ] at h;omega)
   omega
theorem itoa_len (n:Int) (h0: -9223372036854775808≤n) (h1:n≤9223372036854775807):(Lib.itoa n).length≤20:=by
 unfold Lib.itoa
 split
 ·rw[List.length_cons,Lib.decDigits_length]
  have:=nDigits_le 18 n.natAbs (by omega)
  omega
 ·rw[Lib.decDigits_length]
  have:=nDigits_le 18 n.toNat (by omega)
  omega
theorem itoa_ok (G:Gl) (C0:Cx) (hb:G.base=some C0) (hl:LibAt C0) (n:Int) (h0: -9223372036854775808≤n) (h1:n≤9223372036854775807) (H:List Blk):
 ACall Tryz.prog G 55 [.int .i64 n] H (fun r H'=>H'=H∧r= .str (Lib.itoa n)):=by
 refine ACall.of_plain ⟨_,Tryz.func55,by decide,rfl⟩ fun c vs hg hv=>?_
 obtain⟨v,us,hv1,hv2,rfl⟩:=RepL.cons_iff.1 hv
 rw[RepL.nil_iff.1 hv2]
 simp only[Rep] at hv1
 obtain⟨rfl,_⟩:=hv1
 refine(Tryz.strconv_Itoa n h0 h1 c.w (see_tab hl.h (hg.2 C0 hb) hl.tab)).mono ?_
 rintro e w' ⟨rfl,k,os,rfl⟩
 refine⟨_,.str (Lib.itoa n),rfl,fun c=>?_,rfl,Go.Lib.below_grow _ _ (Nat.le_refl _) k os⟩
 simp only[Rep]
 exact⟨trivial,by have:=itoa_len n h0 h1;unfold maxLen;omega⟩
def atoA (s:Str):Int×Bool:=match Lib.atoiAll s with
 | .ok v=>(v,true)
 | .range=>(Lib.atoiSat s,false)
 |_=>(0,false)
theorem atoi_ok (G:Gl) (C0:Cx) (hb:G.base=some C0) (hl:LibAt C0) (s:Str) (hs:s.length<4294967296) (H:List Blk):
 ACall Tryz.prog G 54 [.str s] H (fun r H'=>H'=H∧r= .tuple [.int .i64 (atoA s).1,.ifc (atoA s).2]):=by
 refine ACall.of_plain ⟨_,Tryz.func54,by decide,rfl⟩ fun c vs hg hv=>?_
 obtain⟨v,us,hv1,hv2,rfl⟩:=RepL.cons_iff.1 hv
 rw[RepL.nil_iff.1 hv2]
 simp only[Rep] at hv1
 obtain⟨rfl,_⟩:=hv1
 have hsz:(⟨⟨s⟩⟩:ByteArray).size=s.length:=rfl
 have tell:∀ (c:Cx) (n:Int) (z:Bool) (v:Value),(IntKind.i64.min≤n∧n≤IntKind.i64.max)→Rep c (.ifc z) v→v.oneCell'=true→Rep c (.tuple [.int .i64 n,.ifc z]) (.tuple #[.int .i64 n,v]):=fun c n z v hn hz _=>by
  simp only[Rep]
  exact⟨[.int .i64 n,v],RepL.mk_cons (by simp only[Rep];exact⟨trivial,hn⟩) (RepL.mk_cons hz RepL.mk_nil),rfl⟩
 rcases ha:Lib.atoiAll s with n|_|_
 ·obtain⟨vb0,vb1⟩:=Lib.atoiAll_bounds ha
  refine(Tryz.strconv_Atoi_ok ⟨⟨s⟩⟩ (by rw[hsz];omega) n ha c.w).mono ?_
  rintro e w' ⟨rfl,hw⟩
  refine⟨_,.tuple [.int .i64 n,.ifc true],rfl,fun c=>tell c n true _ ⟨vb0,vb1⟩ (by simp only[Rep]) rfl,by simp only[atoA,ha],?_⟩
  rcases hw with rfl|⟨t,rfl⟩
  ·exact Go.RowKit.Below.refl _ _
  ·exact Lib.bytesWorld_below _ _ _
 ·obtain⟨ev,h1,h2⟩:=hl.es
  refine(Tryz.strconv_Atoi_bad ⟨⟨s⟩⟩ (by rw[hsz];omega) ha ev c.w (see_cell hl.h (hg.2 C0 hb) h1) h2).mono ?_
  rintro e w' ⟨N,rfl,_,_,hbw⟩
  exact⟨_,.tuple [.int .i64 0,.ifc false],rfl,fun c=>tell c 0 false _ (by decide) (by simp only[Rep];exact⟨_,_,rfl⟩) rfl,by simp only[atoA,ha],hbw⟩
 ·obtain⟨ev,h1,h2⟩:=hl.er
  obtain⟨sb0,sb1⟩:=Lib.atoiSat_bounds s
  refine(Tryz.strconv_Atoi_range ⟨⟨s⟩⟩ (by rw[hsz];omega) ha ev c.w (see_cell hl.h (hg.2 C0 hb) h1) h2).mono ?_
  rintro e w' ⟨N,rfl,_,_,hbw⟩
  exact⟨_,.tuple [.int .i64 (Lib.atoiSat s),.ifc false],rfl,fun c=>tell c _ false _ ⟨sb0,sb1⟩ (by simp only[Rep];exact⟨_,_,rfl⟩) rfl,by simp only[atoA,ha],hbw⟩
section
open Go Go.ChangeShapes Go.WideShapes Go.RowKit
theorem gER:Tryz.prog.globalNamed "strconv.ErrRange" =some 1:=by kernel_rfl
theorem gERType:(Tryz.prog.globals[1]?).map (·.type)=some 103:=by kernel_rfl
theorem gPT:Tryz.prog.globalNamed "internal/strconv.uint64pow10" =some 2:=by kernel_rfl
theorem gPTType:(Tryz.prog.globals[2]?).map (·.type)=some 216:=by kernel_rfl
theorem cells173:Tryz.prog.cellsOf 173=1:=by kernel_rfl
theorem cells216:Tryz.prog.cellsOf 216=20:=by kernel_rfl
theorem tabEq:(Rows.laid_internal_strconv_uint64pow10:DataW Unit)=Lib.tabData .u64 Lib.pow10Tab:=by kernel_rfl
theorem libAt {W:World} (h:laidMetH Tryz.prog [("math/bits.deBruijn32tab",Rows.laid_math_bits_deBruijn32tab),("math/bits.deBruijn64tab",Rows.laid_math_bits_deBruijn64tab),("internal/strconv.uint64pow10",Rows.laid_internal_strconv_uint64pow10),("strconv.ErrRange",Rows.laid_strconv_ErrRange),("strconv.ErrSyntax",Rows.laid_strconv_ErrSyntax)] W):LibAt (rdC W):=by
 have h3:laidMet Tryz.prog [("internal/strconv.uint64pow10",Rows.laid_internal_strconv_uint64pow10),("strconv.ErrRange",Rows.laid_strconv_ErrRange),("strconv.ErrSyntax",Rows.laid_strconv_ErrSyntax)] W:=laidMet.tail (laidMet.tail h)
 have h4:laidMet Tryz.prog [("strconv.ErrRange",Rows.laid_strconv_ErrRange),("strconv.ErrSyntax",Rows.laid_strconv_ErrSyntax)] W:=laidMet.tail h3
 refine⟨rfl,(errAt h).2,?_,?_⟩
 ·obtain⟨a0,s0,hv0,-,-,-⟩:=laid_sentinel h4 gER gERType Tryz.underlying103 row212 Tryz.underlying212 Tryz.underlying214 rfl rfl Tryz.underlying9 cells214 cells9
  exact⟨_,(by have h0:=World.var?_cell gER hv0 0;show W.cell? _=_;simpa using h0),.inr ⟨_,_,rfl⟩⟩
 ·rw[tabEq] at h3
  exact Lib.tabIs_of_head gPT gPTType Tryz.underlying216 Tryz.underlying173 cells173 cells216 h3
theorem based0 (W:World):Based (GB W) 0:=fun C1 e=>by cases e;exact Nat.le_refl _
end
section
open Go Go.ChangeShapes Go.WideShapes Go.RowKit
section
variable {H:Type} {enc:TypeId×Value→H} {W:World} {sp:Nat→Bool}
theorem read_bds (n:Nat):Rd enc Tryz.prog W sp n 23 (fun l:List Bd=>[.list 9 (bdCells l)]) (fun l=>1+bdsWt l):=by
 have h:=rd_slice (enc:=enc) (P:=Tryz.prog) (W:=W) (sp:=sp) (t:=23) (e:=53) true (f:=Bd.cells) (wt:=Bd.wt) (n:=9) (N:=n) (by kernel_rfl) (by kernel_rfl) (by kernel_rfl) (by omega) (.inl rfl) (fun m _=>(read_ex m).2.1)
 intro cs x hx
 obtain⟨a,h1,h2,h3⟩:=h cs x hx
 have e:(a.map fun x=>bx true x.cells)=bdCells a:=by rw[bdCells_map];rfl
 have h1:Good W [SV.list 9 (a.map fun x=>bx true x.cells)] cs:=h1
 rw[e] at h1
 exact⟨a,h1,h2,by show 1+bdsWt a≤_;rw[bdsWt_sum];exact h3⟩
end
end
def idxFrom:Nat→List (List UInt8)→List UInt8→Int
 |_,[],_=> -1
 |i,x::r,v=>if v=x then i else idxFrom (i+1) r v
theorem index_list (G:Gl) (l:List (List UInt8)) (v:List UInt8) (H:List Blk) (hl:l.length<4611686018427387904):
 ACall Tryz.prog G 135 [.list 1 (l.map .str),.str v] H (fun r H'=>H'=H∧r= .int .i64 (idxFrom 0 l v)):=by
 refine ACall.of_go TB [] tabOK _ Tryz.func135 rfl (by decide) Tryz.ntmps135 (by simp) rfl (by simp only[initEnv,Nat.reduceAdd];rfl) fun C R' hR hC hcl hB=>?_;have X:=noX;have hC':=congrArg List.length hC
 (refine runO ?_;with_reducible repeat' first|exact trivial|(apply Fork.mk<;>intro hb)|apply Two.mk)
 ·refine go_loop (fun i:Nat=>[(0,.list 1 (l.map .str)),(1,.str v),(4,.int .i64 0),(7,.int .i64 l.length),(8,.int .i64 i)]) (fun _=>H) (fun i=>l.length - i) (fun i=>i≤l.length∧idxFrom i (l.drop i) v=idxFrom 0 l v) 0 (by simp) (Wk.sub ?_) ?_
  ·simp (decide:=true) [subEnv,look]
  intro K i hi hK
  (refine runO ?_;with_reducible repeat' first|exact trivial|(apply Fork.mk<;>intro hb)|apply Two.mk)
  ·have hi':i<l.length:=by omega
   rw[List.drop_eq_getElem_cons hi',idxFrom,if_pos hb] at hi
   exact Fin.out hR ⟨rfl,by rw[← hi.2];rfl⟩
  ·have hi':i<l.length:=by omega
   rw[List.drop_eq_getElem_cons hi',idxFrom,if_neg hb] at hi
   exact hK _ _ (i+1) (by omega) ⟨hi',hi.2⟩ (Wk.sub (by simp[subEnv,look]))
  ·rw[List.drop_of_length_le (by omega),idxFrom] at hi
   exact Fin.out hR ⟨rfl,by rw[← hi.2];rfl⟩
theorem idxFrom_ge:∀ (l:List Str) (v:Str) (i:Nat),(idxFrom i l v= -1∧v∉l)∨((i:Int)≤idxFrom i l v∧v∈l)
 |[],v,i=> .inl ⟨rfl,by simp⟩
 |x::r,v,i=>by
  rw[idxFrom]
  split
  ·rename_i h;exact .inr ⟨Int.le_refl _,by simp[h]⟩
  ·rename_i h
   rcases idxFrom_ge r v (i+1) with h1|h1
   ·exact .inl ⟨h1.1,by simp[h,h1.2]⟩
   ·exact .inr ⟨by omega,by simp[h1.2]⟩
theorem contains_list (G:Gl) (l:List Str) (v:Str) (H:List Blk) (hl:l.length<4611686018427387904):
 ACall Tryz.prog G 95 [.list 1 (l.map .str),.str v] H (fun r H'=>H'=H∧r= .bool (decide (v∈l))):=by
 refine ACall.of_go TB [] tabOK _ Tryz.func95 rfl (by decide) Tryz.ntmps95 (by simp) rfl (by simp only[initEnv,Nat.reduceAdd];rfl) fun C R' hR hC hcl hB=>?_;have X:=noX;have hC':=congrArg List.length hC
 (refine runO ?_;with_reducible repeat' first|exact trivial|(apply Fork.mk<;>intro hb)|apply Two.mk)
 refine go_call (xs:=[.list 1 (l.map .str),.str v]) (by exact evS) rfl (index_list G l v H hl) ?_
 rintro r H' ⟨rfl,rfl⟩
 (refine runO ?_;with_reducible repeat' first|exact trivial|(apply Fork.mk<;>intro hb)|apply Two.mk)
 refine Fin.out hR ⟨rfl,?_⟩
 rcases idxFrom_ge l v 0 with h|h
 ·simp[h.1,h.2,resSV]
 ·simp only[h.2,decide_true,SV.bool.injEq,decide_eq_true_eq,resSV];omega

def someB (H:List Blk):SV→List Blk→Prop:=fun r H'=>H'=H∧∃ b,r= .bool b
def tl (s:Str) (n:Int) (b:Bool):SV:= .agg [.str s,.int .i64 n,.bool b]
def ownOf (k:Int) (l:List Str) (binds:List Bd):List Str:=if k=3 then l else if k=5 then binds.map Bd.name else []
mutual
def occ (s:Str):Ex→Nat
 | .mk k nm _ _ l subs binds alts=>if k=1 then (if nm=s then 1 else 0) else if s∈ownOf k l binds then 0 else occL s subs+occB s binds+occA s (k=6∧nm=s) alts
def occL (s:Str):List Ex→Nat
 |[]=>0
 |e::r=>occ s e+occL s r
def occBd (s:Str):Bd→Nat
 | .mk _ e=>occ s e
def occB (s:Str):List Bd→Nat
 |[]=>0
 |b::r=>occBd s b+occB s r
def occAl (s:Str) (c:Prop) [Decidable c]:Al→Nat
 | .mk _ _ _ l e=>if s∈l∨c then 0 else occ s e
def occA (s:Str) (c:Prop) [Decidable c]:List Al→Nat
 |[]=>0
 |a::r=>occAl s c a+occA s c r
end
mutual
def insd (s:Str) (b:Bool):Ex→Bool
 | .mk k nm _ _ l subs binds alts=>if k=1 then (b&&decide (nm=s)) else if s∈ownOf k l binds then false else insdL s (b||decide (k=3)) subs||insdB s (b||decide (k=3)) binds||insdA s (b||decide (k=3)) (k=6∧nm=s) alts
def insdL (s:Str) (b:Bool):List Ex→Bool
 |[]=>false
 |e::r=>insd s b e||insdL s b r
def insdBd (s:Str) (b:Bool):Bd→Bool
 | .mk _ e=>insd s b e
def insdB (s:Str) (b:Bool):List Bd→Bool
 |[]=>false
 |x::r=>insdBd s b x||insdB s b r
def insdAl (s:Str) (b:Bool) (c:Prop) [Decidable c]:Al→Bool
 | .mk _ _ _ l e=>if s∈l∨c then false else insd s b e
def insdA (s:Str) (b:Bool) (c:Prop) [Decidable c]:List Al→Bool
 |[]=>false
 |a::r=>insdAl s b c a||insdA s b c r
end
theorem occBd_eq (s:Str) (b:Bd):occBd s b=occ s b.e:=by cases b;rw[occBd];rfl
theorem occAl_eq (s:Str) (c:Prop) [Decidable c] (a:Al):occAl s c a=if s∈a.names∨c then 0 else occ s a.body:=by cases a;rw[occAl];rfl
theorem insdBd_eq (s:Str) (q:Bool) (b:Bd):insdBd s q b=insd s q b.e:=by cases b;rw[insdBd];rfl
theorem insdAl_eq (s:Str) (q:Bool) (c:Prop) [Decidable c] (a:Al):insdAl s q c a=if s∈a.names∨c then false else insd s q a.body:=by cases a;rw[insdAl];rfl
mutual
theorem occ_le (s:Str):∀ e:Ex,occ s e≤e.wt
 | .mk k nm n o l subs binds alts=>by
  have h1:=occL_le s subs
  have h2:=occB_le s binds
  have h3:=occA_le s (k=6∧nm=s) alts
  simp only[occ,Ex.wt]
  split
  ·split<;>omega
  ·split<;>omega
theorem occL_le (s:Str):∀ l:List Ex,occL s l≤exsWt l
 |[]=>Nat.le_refl _
 |e::r=>by have h1:=occ_le s e;have h2:=occL_le s r;simp only[occL,exsWt];omega
theorem occBd_le (s:Str):∀ b:Bd,occBd s b≤b.wt
 | .mk n e=>by have h1:=occ_le s e;simp only[occBd,Bd.wt];omega
theorem occB_le (s:Str):∀ l:List Bd,occB s l≤bdsWt l
 |[]=>Nat.le_refl _
 |e::r=>by have h1:=occBd_le s e;have h2:=occB_le s r;simp only[occB,bdsWt];omega
theorem occAl_le (s:Str) (c:Prop) [Decidable c]:∀ b:Al,occAl s c b≤b.wt
 | .mk k nm n l e=>by have h1:=occ_le s e;simp only[occAl,Al.wt];split<;>omega
theorem occA_le (s:Str) (c:Prop) [Decidable c]:∀ l:List Al,occA s c l≤alsWt l
 |[]=>Nat.le_refl _
 |e::r=>by have h1:=occAl_le s c e;have h2:=occA_le s c r;simp only[occA,alsWt];omega
end
theorem Al.wt_names (a:Al):a.names.length≤a.wt:=by cases a;simp only[Al.wt,Al.names];have:=strsWt_len ‹_›;omega
theorem exCells_takeAll (l:List Ex):List.take l.length (exCells l)=exCells l:=List.take_of_length_le (by simp[exCells_len])
theorem Al.names_lt {kd:Int} {nm:Str} {nn op:Int} {names:List Str} {subs:List Ex} {binds:List Bd} {alts:List Al} {i:Nat} (h:i<alts.length):alts[i].names.length≤(Ex.mk kd nm nn op names subs binds alts).wt:=by
 have h1:=alsWt_mem (List.getElem_mem h)
 have h2:=Al.wt_names alts[i]
 simp only[Ex.wt]
 omega
theorem clone_strs (G:Gl) (hG:GClosed G) (l:List Str) (H:List Blk) (hl:l.length<1099511627776):ACall Tryz.prog G 42 [.list 1 (l.map .str)] H (fun r H'=>H'=H++[.cells 0 1 (l.map .str)]∧r= .sl H.length 0 0 l.length):=by
 refine ACall.of_go TB [2,5] tabOK _ Tryz.func42 rfl (by decide) Tryz.ntmps42 (by simp) rfl (by simp only[initEnv,Nat.reduceAdd];rfl) fun C R' hR hC hcl hB=>?_;have X:=noX;have hC':=congrArg List.length hC
 (refine runO ?_;with_reducible repeat' first|exact trivial|(apply Fork.mk<;>intro hb)|apply Two.mk)
 ·obtain rfl:l=[]:=List.length_eq_zero_iff.1 hb
  exact finK [(H.length+1,0)] (.sl H.length 0 0 0) [.cells 0 1 []] hR hC' hcl ⟨rfl,rfl⟩
 ·exact finK [(H.length+1,0)] (.sl H.length 0 0 l.length) [.cells 0 1 (l.map .str)] hR hC' hcl ⟨rfl,rfl⟩
def scopeParts:Ex→List (Ex×List Str)
 | .mk kd nm _ _ names subs binds alts=>subs.map (fun x=>(x,ownOf kd names binds))++(binds.map (fun b=>(b.e,ownOf kd names binds))++alts.map (fun a=>(a.body,a.names++if kd=6 then [nm] else [])))
theorem scope_sub {kd:Int} {nm:Str} {nn op:Int} {names:List Str} {subs:List Ex} {binds:List Bd} {alts:List Al} {i:Nat} (h:i<subs.length):(scopeParts (.mk kd nm nn op names subs binds alts))[i]? =some (subs[i],ownOf kd names binds):=by
 simp only[scopeParts]
 rw[List.getElem?_append_left (by simpa using h),List.getElem?_map,List.getElem?_eq_getElem h];rfl
theorem scope_bind {kd:Int} {nm:Str} {nn op:Int} {names:List Str} {subs:List Ex} {binds:List Bd} {alts:List Al} {i:Nat} (h:i<binds.length):(scopeParts (.mk kd nm nn op names subs binds alts))[subs.length+i]? =some (binds[i].e,ownOf kd names binds):=by
 simp only[scopeParts]
 rw[List.getElem?_append_right (by simp),List.length_map,Nat.add_sub_cancel_left,List.getElem?_append_left (by simpa using h),List.getElem?_map,List.getElem?_eq_getElem h];rfl
theorem scope_alt {kd:Int} {nm:Str} {nn op:Int} {names:List Str} {subs:List Ex} {binds:List Bd} {alts:List Al} {i:Nat} (h:i<alts.length):(scopeParts (.mk kd nm nn op names subs binds alts))[subs.length+binds.length+i]? =some (alts[i].body,alts[i].names++if kd=6 then [nm] else []):=by
 simp only[scopeParts]
 rw[List.getElem?_append_right (by simp;omega),List.length_map,show subs.length+binds.length+i - subs.length=binds.length+i by omega,List.getElem?_append_right (by simp),List.length_map,Nat.add_sub_cancel_left,List.getElem?_map,List.getElem?_eq_getElem h];rfl
theorem scopes_ok (G:Gl) (hG:GClosed G) (e:Ex) (hw:e.wt<549755813888) (fv:SV) (Hs:Nat→List Blk) (n0:Nat) (hlen:∀ i,(Hs i).length=n0) (hfu:fv.under n0=true) (hcls:closed (Hs 0)→∀ i,closed (Hs i))
 (hy:∀ i p X,(scopeParts e)[i]? =some p→ACallV Tryz.prog G fv [p.1.sv,.list 1 (p.2.map .str)] (Hs i++X) (fun r H'=>H'=Hs (i+1)++X)):
 ACall Tryz.prog G 84 [e.sv,fv] (Hs 0) (fun r H'=>H'=Hs (scopeParts e).length):=by
 obtain⟨kd,nm,nn,op,names,subs,binds,alts⟩:=e
 have hle:=Ex.wt_lens kd nm nn op names subs binds alts
 have hpl:(scopeParts (Ex.mk kd nm nn op names subs binds alts)).length=subs.length+binds.length+alts.length:=by simp[scopeParts];omega
 refine ACall.of_go TB [4] tabOK _ Tryz.func84 rfl (by decide) Tryz.ntmps84 (by simp) rfl (by simp only[initEnv,Nat.reduceAdd];rfl) fun C R' hR hC hcl hB=>?_;have X:=noX;have hC':=congrArg List.length hC
 have hcl:=hcls hcl
 have hC':=hC'.trans (hlen 0)
 have X:=hsX Hs n0 hlen
 (refine runB ?_;with_reducible repeat' first|exact trivial|(apply Fork.mk<;>intro hb)|apply Two.mk)
 refine go_cut (fun _:Unit=>[(1,fv),(2,.ptr n0 0 0 0),(4,.list 1 ((ownOf kd names binds).map .str))]) (fun _=>Hs 0++[.cells 0 8 [.agg [.int .i64 kd,.str nm,.int .i64 nn,.int .i64 op,.list 1 (names.map .str),.list 8 (exCells subs),.list 9 (bdCells binds),.list 12 (alCells alts)]]]) (fun _=>True) (fun K hK=>?_) (fun _ _=>?_)
 ·(refine runO ?_;with_reducible repeat' first|exact trivial|(apply Fork.mk<;>intro hb)|apply Two.mk)
  ·refine hK _ _ () trivial ?_
   simp only[ownOf,if_pos hb]
   exact wkS (n0:=n0) [(n0,0)] hG hB hC' (hcl 0)
  ·refine go_loop (fun i:Nat=>[(1,fv),(2,.ptr n0 0 0 0),(23,.list 9 (bdCells binds)),(24,.int .i64 binds.length),(25,.int .i64 i),(4,.sl (n0+1) 0 0 i)])
    (fun i=>Hs 0++[.cells 0 8 [.agg [.int .i64 kd,.str nm,.int .i64 nn,.int .i64 op,.list 1 (names.map .str),.list 8 (exCells subs),.list 9 (bdCells binds),.list 12 (alCells alts)]],.cells 0 1 ((binds.take i).map fun b=> .str b.name)]) (fun i=>binds.length - i) (fun i=>i≤binds.length) 0 (Nat.zero_le _) ?_ ?_
   ·exact wkS (n0:=n0) [(n0,0),(n0+1,0)] hG hB hC' (hcl 0)
   ·intro K2 i hi hK2
    (refine runO ?_;with_reducible repeat' first|exact trivial|(apply Fork.mk<;>intro hb)|apply Two.mk)
    ·refine hK2 _ _ (i+1) (by omega) (by omega) ?_
     simp only[List.take_succ_eq_append_getElem (show i<binds.length by omega),List.map_append,List.map_cons,List.map_nil]
     exact wkS (n0:=n0) [(n0,0),(n0+1,0)] hG hB hC' (hcl 0)
    ·refine hK _ _ () trivial ?_
     obtain rfl:i=binds.length:=by omega
     have e1:ownOf kd names binds=binds.map Bd.name:=by simp[ownOf,‹kd=5›]
     simp only[e1,List.take_length,List.map_map]
     exact wkS (n0:=n0) [(n0,0)] hG hB hC' (hcl 0)
  ·refine hK _ _ () trivial ?_
   simp only[ownOf,if_neg ‹¬ kd=3›,if_neg ‹¬ kd=5›,List.map_nil]
   exact wkS (n0:=n0) [(n0,0)] hG hB hC' (hcl 0)
 ·(refine runB ?_;with_reducible repeat' first|exact trivial|(apply Fork.mk<;>intro hb)|apply Two.mk)
  refine go_cut (fun _:Unit=>[(1,fv),(2,.ptr n0 0 0 0),(4,.list 1 ((ownOf kd names binds).map .str))]) (fun _=>Hs subs.length++[.cells 0 8 [.agg [.int .i64 kd,.str nm,.int .i64 nn,.int .i64 op,.list 1 (names.map .str),.list 8 (exCells subs),.list 9 (bdCells binds),.list 12 (alCells alts)]]]) (fun _=>True) (fun K hK=>?_) (fun _ _=>?_)
  ·(refine runO ?_;with_reducible repeat' first|exact trivial|(apply Fork.mk<;>intro hb)|apply Two.mk)
   refine go_loop (fun i:Nat=>[(1,fv),(2,.ptr n0 0 0 0),(4,.list 1 ((ownOf kd names binds).map .str)),(36,.list 8 (exCells subs)),(37,.int .i64 subs.length),(38,.int .i64 i)])
    (fun i=>Hs i++[.cells 0 8 [.agg [.int .i64 kd,.str nm,.int .i64 nn,.int .i64 op,.list 1 (names.map .str),.list 8 (exCells subs),.list 9 (bdCells binds),.list 12 (alCells alts)]]]) (fun i=>subs.length - i) (fun i=>i≤subs.length) 0 (Nat.zero_le _) ?_ ?_
   ·exact wkS (n0:=n0) [(n0,0)] hG hB hC' (hcl 0)
   ·intro K2 i hi hK2
    (refine runO ?_;with_reducible repeat' first|exact trivial|(apply Fork.mk<;>intro hb)|apply Two.mk)
    ·refine callV (hy i _ _ (scope_sub (by omega))) ?_
     rintro r H' rfl
     (refine runO ?_;with_reducible repeat' first|exact trivial|(apply Fork.mk<;>intro hb)|apply Two.mk)
     refine hK2 _ _ (i+1) (by omega) (by omega) ?_
     exact wkS (n0:=n0) [(n0,0)] hG hB hC' (hcl (i+1))
    ·obtain rfl:i=subs.length:=by omega
     refine hK _ _ () trivial ?_
     exact wkS (n0:=n0) [(n0,0)] hG hB hC' (hcl _)
  ·(refine runB ?_;with_reducible repeat' first|exact trivial|(apply Fork.mk<;>intro hb)|apply Two.mk)
   refine go_cut (fun _:Unit=>[(1,fv),(2,.ptr n0 0 0 0),(4,.list 1 ((ownOf kd names binds).map .str))]) (fun _=>Hs (subs.length+binds.length)++[.cells 0 8 [.agg [.int .i64 kd,.str nm,.int .i64 nn,.int .i64 op,.list 1 (names.map .str),.list 8 (exCells subs),.list 9 (bdCells binds),.list 12 (alCells alts)]]]) (fun _=>True) (fun K hK=>?_) (fun _ _=>?_)
   ·(refine runO ?_;with_reducible repeat' first|exact trivial|(apply Fork.mk<;>intro hb)|apply Two.mk)
    refine go_loop (fun i:Nat=>[(1,fv),(2,.ptr n0 0 0 0),(4,.list 1 ((ownOf kd names binds).map .str)),(48,.list 9 (bdCells binds)),(49,.int .i64 binds.length),(50,.int .i64 i)])
     (fun i=>Hs (subs.length+i)++[.cells 0 8 [.agg [.int .i64 kd,.str nm,.int .i64 nn,.int .i64 op,.list 1 (names.map .str),.list 8 (exCells subs),.list 9 (bdCells binds),.list 12 (alCells alts)]]]) (fun i=>binds.length - i) (fun i=>i≤binds.length) 0 (Nat.zero_le _) ?_ ?_
    ·exact wkS (n0:=n0) [(n0,0)] hG hB hC' (hcl _)
    ·intro K2 i hi hK2
     (refine runO ?_;with_reducible repeat' first|exact trivial|(apply Fork.mk<;>intro hb)|apply Two.mk)
     ·refine callV (hy (subs.length+i) _ _ (scope_bind (by omega))) ?_
      rintro r H' rfl
      (refine runO ?_;with_reducible repeat' first|exact trivial|(apply Fork.mk<;>intro hb)|apply Two.mk)
      refine hK2 _ _ (i+1) (by omega) (by omega) ?_
      exact wkS (n0:=n0) [(n0,0)] hG hB hC' (hcl _)
     ·obtain rfl:i=binds.length:=by omega
      refine hK _ _ () trivial ?_
      exact wkS (n0:=n0) [(n0,0)] hG hB hC' (hcl _)
   ·(refine runO ?_;with_reducible repeat' first|exact trivial|(apply Fork.mk<;>intro hb)|apply Two.mk)
    refine go_loop (fun i:Nat=>[(1,fv),(2,.ptr n0 0 0 0),(61,.list 12 (alCells alts)),(62,.int .i64 alts.length),(63,.int .i64 i)])
     (fun i=>Hs (subs.length+binds.length+i)++[.cells 0 8 [.agg [.int .i64 kd,.str nm,.int .i64 nn,.int .i64 op,.list 1 (names.map .str),.list 8 (exCells subs),.list 9 (bdCells binds),.list 12 (alCells alts)]]]) (fun i=>alts.length - i) (fun i=>i≤alts.length) 0 (Nat.zero_le _) ?_ ?_
    ·exact wkS (n0:=n0) [(n0,0)] hG hB hC' (hcl _)
    ·intro K2 i hi hK2
     (refine runO ?_;with_reducible repeat' first|exact trivial|(apply Fork.mk<;>intro hb)|apply Two.mk)
     ·have hi':i<alts.length:=by omega
      have hnl:=Al.names_lt (kd:=kd) (nm:=nm) (nn:=nn) (op:=op) (names:=names) (subs:=subs) (binds:=binds) hi'
      refine callS (clone_strs G hG alts[i].names _ (by omega)) ?_
      rintro r H' ⟨rfl,rfl⟩
      simp only[List.append_assoc,List.cons_append,List.nil_append,List.length_append,List.length_cons,List.length_nil,List.length_set,X,Nat.reduceAdd]
      (refine runC ?_;with_reducible repeat' first|exact trivial|(apply Fork.mk<;>intro hb)|apply Two.mk)
      refine go_cut (fun _:Unit=>[(1,fv),(2,.ptr n0 0 0 0),(61,.list 12 (alCells alts)),(62,.int .i64 alts.length),(63,.int .i64 i),(12,.ptr (n0+1) 0 0 0),(13,.list 1 ((alts[i].names++if kd=6 then [nm] else []).map .str))])
       (fun _=>Hs (subs.length+binds.length+i)++[.cells 0 8 [.agg [.int .i64 kd,.str nm,.int .i64 nn,.int .i64 op,.list 1 (names.map .str),.list 8 (exCells subs),.list 9 (bdCells binds),.list 12 (alCells alts)]],.cells 0 12 [.agg (.int .i64 alts[i].kind:: .str alts[i].name:: .int .i64 alts[i].n:: .list 1 (alts[i].names.map .str)::alts[i].body.cells)]]) (fun _=>True) (fun K3 hK3=>?_) (fun _ _=>?_)
      ·(refine runO ?_;with_reducible repeat' first|exact trivial|(apply Fork.mk<;>intro hb)|apply Two.mk)
       ·refine hK3 _ _ () trivial ?_
        simp only[if_pos hb,List.map_append,List.map_cons,List.map_nil,Nat.add_assoc]
        exact wkS (n0:=n0) [(n0,0),(n0+1,0)] hG hB hC' (hcl _)
       ·refine hK3 _ _ () trivial ?_
        simp only[if_neg hb,List.append_nil,Nat.add_assoc]
        exact wkS (n0:=n0) [(n0,0),(n0+1,0)] hG hB hC' (hcl _)
      ·(refine runO ?_;with_reducible repeat' first|exact trivial|(apply Fork.mk<;>intro hb)|apply Two.mk)
       refine callV (hy (subs.length+binds.length+i) _ _ (scope_alt hi')) ?_
       rintro r H' rfl
       (refine runO ?_;with_reducible repeat' first|exact trivial|(apply Fork.mk<;>intro hb)|apply Two.mk)
       refine hK2 _ _ (i+1) (by omega) (by omega) ?_
       exact wkS (n0:=n0) [(n0,0)] hG hB hC' (hcl _)
     ·obtain rfl:i=alts.length:=by omega
      refine Fin.tellN (n0:=n0) hR (hlen _) hC' (hcl _) (.same _ rfl) ?_
      rw[hpl]
def cntB:List (Str×Int)→Str→Int
 |[],_=>0
 |(k,n)::r,s=>if s=k then n else cntB r s
def setB:List (Str×Int)→Str→Int→List (Str×Int)
 |[],s,n=>[(s,n)]
 |(k,m)::r,s,n=>if s=k then (s,n)::r else (k,m)::setB r s n
def esB (l:List (Str×Int)):List (SV×SV):=l.map fun p=>(.str p.1,.int .i64 p.2)
def putO (l:List Str) (s:Str):List Str:=if s∈l then l else l++[s]
def esO (l:List Str):List (SV×SV):=l.map fun s=>(.str s,.bool true)
theorem findSV_esB:∀ (l:List (Str×Int)) (s:Str),(findSV (esB l) (.str s)).getD (.int .i64 0)= .int .i64 (cntB l s)
 |[],s=>rfl
 |(k,n)::r,s=>by
  simp only[esB,List.map_cons,findSV,SV.keyEq,cntB]
  by_cases h:s=k
  ·simp[h]
  ·simp only[beq_eq_false_iff_ne.2 h,h,if_false,Bool.false_eq_true]
   exact findSV_esB r s
theorem setSV_esB:∀ (l:List (Str×Int)) (s:Str) (n:Int),setSV (esB l) (.str s) (.int .i64 n)=esB (setB l s n)
 |[],s,n=>rfl
 |(k,m)::r,s,n=>by
  simp only[esB,List.map_cons,setSV,SV.keyEq,setB]
  by_cases h:s=k
  ·simp[h]
  ·simp only[beq_eq_false_iff_ne.2 h,h,if_false,Bool.false_eq_true]
   rw[show setSV (List.map _ r) (.str s) (.int .i64 n)=_ from setSV_esB r s n]
   rfl
theorem setSV_esO:∀ (l:List Str) (s:Str),setSV (esO l) (.str s) (.bool true)=esO (putO l s)
 |[],s=>rfl
 |k::r,s=>by
  simp only[esO,List.map_cons,setSV,SV.keyEq,putO]
  by_cases h:s=k
  ·simp[h]
  ·simp only[beq_eq_false_iff_ne.2 h,if_false,Bool.false_eq_true]
   rw[show setSV (List.map _ r) (.str s) (.bool true)=_ from setSV_esO r s]
   simp only[esO,putO,List.mem_cons,h,false_or]
   split<;>rfl
theorem cnt_set:∀ (l:List (Str×Int)) (s:Str) (n:Int) (t:Str),cntB (setB l s n) t=if t=s then n else cntB l t
 |[],s,n,t=>by simp[setB,cntB]
 |(k,m)::r,s,n,t=>by
  by_cases h:s=k
  ·subst h
   by_cases ht:t=s<;>simp[setB,cntB,ht]
  ·simp only[setB,if_neg h,cntB,cnt_set r s n t]
   by_cases ht:t=k
   ·subst ht
    rw[if_pos rfl,if_neg (fun e=>h e.symm)]
    rw[if_pos rfl]
   ·rw[if_neg ht,if_neg ht]
def incB (b:List (Str×Int)) (l:List Str):List (Str×Int):=l.foldl (fun b n=>setB b n (cntB b n+1)) b
def decB (b:List (Str×Int)) (l:List Str):List (Str×Int):=l.foldl (fun b n=>setB b n (cntB b n - 1)) b
theorem cnt_inc:∀ (l:List Str) (b:List (Str×Int)) (s:Str),cntB (incB b l) s=cntB b s+l.count s
 |[],b,s=>by simp[incB]
 |x::l,b,s=>by
  rw[incB,List.foldl_cons,← incB,cnt_inc l,cnt_set,List.count_cons]
  by_cases h:s=x
  ·subst h;simp;omega
  ·have h2:¬ x=s:=fun e=>h e.symm
   simp[h,h2]
theorem cnt_dec:∀ (l:List Str) (b:List (Str×Int)) (s:Str),cntB (decB b l) s=cntB b s - l.count s
 |[],b,s=>by simp[decB]
 |x::l,b,s=>by
  rw[decB,List.foldl_cons,← decB,cnt_dec l,cnt_set,List.count_cons]
  by_cases h:s=x
  ·subst h;simp;omega
  ·have h2:¬ x=s:=fun e=>h e.symm
   simp[h,h2]
theorem inc_snoc (b:List (Str×Int)) (l:List Str) (x:Str):incB b (l++[x])=setB (incB b l) x (cntB (incB b l) x+1):=by simp[incB]
theorem dec_snoc (b:List (Str×Int)) (l:List Str) (x:Str):decB b (l++[x])=setB (decB b l) x (cntB (decB b l) x - 1):=by simp[decB]
abbrev BO:=List (Str×Int)×List Str
def cstep (f:Ex→BO→BO) (st:BO) (p:Ex×List Str):BO:=(decB (f p.1 (incB st.1 p.2,st.2)).1 p.2,(f p.1 (incB st.1 p.2,st.2)).2)
def unbF:Nat→Ex→BO→BO
 |0,_,st=>st
 |m+1,e,st=>if e.kind=1 then (if cntB st.1 e.name=0 then (st.1,putO st.2 e.name) else st) else (scopeParts e).foldl (cstep (unbF m)) st
theorem unb_cnt:∀ (m:Nat) (e:Ex) (st:BO) (s:Str),cntB (unbF m e st).1 s=cntB st.1 s
 |0,e,st,s=>rfl
 |m+1,e,st,s=>by
  rw[unbF]
  split
  ·split<;>rfl
  ·generalize scopeParts e=l
   induction l generalizing st with
   |nil=>rfl
   |cons p l ih=>
    rw[List.foldl_cons,ih]
    simp only[cstep,cnt_dec,unb_cnt m,cnt_inc]
    omega
theorem cstep_cnt (m:Nat) (st:BO) (p:Ex×List Str) (s:Str):cntB (cstep (unbF m) st p).1 s=cntB st.1 s:=by
 simp only[cstep,cnt_dec,unb_cnt m,cnt_inc]
 omega
theorem csteps_cnt (m:Nat):∀ (l:List (Ex×List Str)) (st:BO) (s:Str),cntB (l.foldl (cstep (unbF m)) st).1 s=cntB st.1 s
 |[],st,s=>rfl
 |p::l,st,s=>by rw[List.foldl_cons,csteps_cnt m l,cstep_cnt]
theorem scope_wt {e:Ex} {p:Ex×List Str} (h:p∈scopeParts e):p.1.wt+p.2.length<e.wt:=by
 obtain⟨kd,nm,nn,op,names,subs,binds,alts⟩:=e
 have h1:=strsWt_len names
 have h2:∀ (l:List Bd) (b:Bd),b∈l→b.e.wt+l.length≤bdsWt l:=fun l=>by
  induction l with
  |nil=>intro b hb;cases hb
  |cons x r ih=>
   intro b hb
   simp only[bdsWt,List.length_cons]
   have hx:=x.wt_gt
   rcases List.mem_cons.1 hb with rfl|hb
   ·have:=bdsWt_len r;omega
   ·have:=ih b hb;omega
 have hown:(ownOf kd names binds).length≤strsWt names+binds.length:=by
  unfold ownOf
  split
  ·omega
  ·split<;>simp
 have h3:=bdsWt_len binds
 simp only[Ex.wt]
 simp only[scopeParts,List.mem_append,List.mem_map] at h
 rcases h with⟨x,hx,rfl⟩|⟨b,hb,rfl⟩|⟨a,ha,rfl⟩
 ·have:=exsWt_mem hx
  simp only;omega
 ·have:=h2 binds b hb
  simp only
  have:(ownOf kd names binds).length≤strsWt names+binds.length:=hown
  unfold ownOf
  split
  ·omega
  ·split
   ·simp;omega
   ·simp;omega
 ·have h4:=alsWt_mem ha
  obtain⟨ak,an,am,al,ab⟩:=a
  simp only[Al.wt] at h4
  simp only[Al.body,Al.names,List.length_append]
  have:=strsWt_len al
  split<;>simp<;>omega
def UH (H:List Blk) (ib io:Nat) (st:BO):List Blk:=(H.set ib (.map none (esB st.1))).set io (.map none (esO st.2))
theorem esB_under (n:Nat):∀ l:List (Str×Int),belowE n (esB l)=true
 |[]=>rfl
 |p::l=>by simp only[esB,List.map_cons,belowE,SV.under,Bool.and_self,Bool.true_and];exact esB_under n l
theorem esO_under (n:Nat):∀ l:List Str,belowE n (esO l)=true
 |[]=>rfl
 |p::l=>by simp only[esO,List.map_cons,belowE,SV.under,Bool.and_self,Bool.true_and];exact esO_under n l
structure MapsAt (M:BO→List Blk) (n0 ib io:Nat):Prop where
 len:∀ st,(M st).length=n0
 lt:ib<n0∧io<n0∧ib≠io
 get:∀ st,(M st)[ib]? =some (.map none (esB st.1))∧(M st)[io]? =some (.map none (esO st.2))
 set:∀ st b o,(M st).set ib (.map none (esB b))=M (b,st.2)∧(M st).set io (.map none (esO o))=M (st.1,o)
 rest:∀ st st' i,i≠ib→i≠io→(M st)[i]? =(M st')[i]?
theorem UH_maps {H:List Blk} {ib io:Nat} {st0:BO} (hb:H[ib]? =some (.map none (esB st0.1))) (ho:H[io]? =some (.map none (esO st0.2))) (hne:ib≠io):MapsAt (UH H ib io) H.length ib io∧UH H ib io st0=H:=by
 have lb:=(List.getElem?_eq_some_iff.1 hb).1
 have lo:=(List.getElem?_eq_some_iff.1 ho).1
 refine⟨⟨fun st=>by simp[UH],⟨lb,lo,hne⟩,fun st=>⟨?_,?_⟩,fun st b o=>⟨?_,?_⟩,fun st st' i h1 h2=>?_⟩,?_⟩
 ·simp only[UH]
  rw[List.getElem?_set_ne (fun e=>hne e.symm),List.getElem?_set_self lb]
 ·simp only[UH]
  rw[List.getElem?_set_self (by simpa using lo)]
 ·simp only[UH]
  rw[List.set_comm _ _ (fun e=>hne e.symm),List.set_set]
 ·simp only[UH]
  rw[List.set_set]
 ·simp only[UH]
  rw[List.getElem?_set_ne (fun e=>h2 e.symm),List.getElem?_set_ne (fun e=>h1 e.symm),List.getElem?_set_ne (fun e=>h2 e.symm),List.getElem?_set_ne (fun e=>h1 e.symm)]
 ·simp only[UH]
  rw[set_same hb,set_same ho]
theorem MapsAt.cls {M:BO→List Blk} {n0 ib io:Nat} (h:MapsAt M n0 ib io) {st st':BO} (hc:closed (M st)):closed (M st'):=by
 intro B hB
 obtain⟨i,hi,rfl⟩:=List.getElem_of_mem hB
 have hi2:i<(M st).length:=by rw[h.len] at hi ⊢;exact hi
 have hl:(M st').length=(M st).length:=by rw[h.len,h.len]
 have hg:(M st')[i]? =some (M st')[i]:=List.getElem?_eq_getElem hi
 rw[hl]
 show Blk.under _ ((M st')[i])=true
 by_cases h1:i=ib
 ·subst h1;rw[(h.get st').1] at hg;rw[← Option.some.inj hg];exact esB_under _ _
 ·by_cases h2:i=io
  ·subst h2;rw[(h.get st').2] at hg;rw[← Option.some.inj hg];exact esO_under _ _
  ·rw[h.rest st' st i h1 h2,List.getElem?_eq_getElem hi2] at hg
   rw[← Option.some.inj hg]
   exact hc _ (List.getElem_mem hi2)
theorem MapsAt.app {M:BO→List Blk} {n0 ib io:Nat} (h:MapsAt M n0 ib io) (L:List Blk):MapsAt (fun st=>M st++L) (n0+L.length) ib io:=by
 have lb:∀ st,ib<(M st).length:=fun st=>by rw[h.len];exact h.lt.1
 have lo:∀ st,io<(M st).length:=fun st=>by rw[h.len];exact h.lt.2.1
 refine⟨fun st=>by simp[h.len],⟨by have:=h.lt.1;omega,by have:=h.lt.2.1;omega,h.lt.2.2⟩,fun st=>⟨?_,?_⟩,fun st b o=>⟨?_,?_⟩,fun st st' i h1 h2=>?_⟩
 ·rw[List.getElem?_append_left (lb st)];exact(h.get st).1
 ·rw[List.getElem?_append_left (lo st)];exact(h.get st).2
 ·rw[set_old (lb st),(h.set st b o).1]
 ·rw[set_old (lo st),(h.set st b o).2]
 ·rw[List.getElem?_append,List.getElem?_append,h.len,h.len,h.rest st st' i h1 h2]
theorem MapsAt.UH {M:BO→List Blk} {n0 ib io:Nat} (h:MapsAt M n0 ib io) (st st':BO):UH (M st) ib io st'=M st':=by
 simp only[Go.Proofs.YtedejleokilohaaGreatDoor.UH]
 rw[(h.set st st'.1 []).1,(h.set _ [] st'.2).2]
theorem MapsAt.X {M:BO→List Blk} {n0 ib io:Nat} (h:MapsAt M n0 ib io):((∀ st L,(M st++L)[ib]? =some (.map none (esB st.1)))∧(∀ st L,(M st++L)[io]? =some (.map none (esO st.2))))∧
 ((∀ st b L,(M st++L).set ib (.map none (esB b))=M (b,st.2)++L)∧(∀ st o L,(M st++L).set io (.map none (esO o))=M (st.1,o)++L))∧
 ((∀ st b,(M st).set ib (.map none (esB b))=M (b,st.2))∧(∀ st o,(M st).set io (.map none (esO o))=M (st.1,o)))∧
 ((∀ st,(M st)[ib]? =some (.map none (esB st.1)))∧(∀ st,(M st)[io]? =some (.map none (esO st.2))))∧
 ((∀ st,(M st).length=n0)∧(∀ st L,(M st++L)[n0]? =L[0]?)∧(∀ st L k,(M st++L)[n0+k]? =L[k]?)∧(∀ st L x,(M st++L).set n0 x=M st++L.set 0 x)∧(∀ st L k x,(M st++L).set (n0+k) x=M st++L.set k x)):=by
 have lb:∀ st,ib<(M st).length:=fun st=>by rw[h.len];exact h.lt.1
 have lo:∀ st,io<(M st).length:=fun st=>by rw[h.len];exact h.lt.2.1
 exact⟨⟨fun st L=>by rw[List.getElem?_append_left (lb st)];exact(h.get st).1,fun st L=>by rw[List.getElem?_append_left (lo st)];exact(h.get st).2⟩,
  ⟨fun st b L=>by rw[set_old (lb st),(h.set st b []).1],fun st o L=>by rw[set_old (lo st),(h.set st [] o).2]⟩,
  ⟨fun st b=>(h.set st b []).1,fun st o=>(h.set st [] o).2⟩,
  ⟨fun st=>(h.get st).1,fun st=>(h.get st).2⟩,hsX M n0 h.len⟩
attribute [go_sem] findSV_esB setSV_esB setSV_esO
def cntOK (b:List (Str×Int)) (w:Nat):Prop:=∀ s,0≤cntB b s∧cntB b s+w<1099511627776
def UnbOK (G:Gl) (f:Ex→BO→BO) (e:Ex):Prop:=∀ (H:List Blk) (ib io:Nat) (st:BO),H[ib]? =some (.map none (esB st.1))→H[io]? =some (.map none (esO st.2))→ib≠io→cntOK st.1 e.wt→
 ACall Tryz.prog G 36 [e.sv,.map ib,.map io] H (fun r H'=>H'=UH H ib io (f e st))
theorem unbound1_ok (G:Gl) (hG:GClosed G) (f:Ex→BO→BO) (s:Ex) (names:List Str) (hf:UnbOK G f s) (hfc:∀ st t,cntB (f s st).1 t=cntB st.1 t) (M:BO→List Blk) (n0 ib io pb po:Nat) (hM:MapsAt M n0 ib io)
 (hpb:∀ st L,(M st++L)[pb]? =some (.cells 0 1 [.map ib])) (hpo:∀ st L,(M st++L)[po]? =some (.cells 0 1 [.map io])) (hp:pb<n0∧po<n0) (st:BO) (hc:cntOK st.1 (s.wt+names.length)) (hw:s.wt+names.length<549755813888):
 ACall Tryz.prog G 85 [s.sv,.list 1 (names.map .str),.ptr pb 0 0 0,.ptr po 0 0 0] (M st) (fun r H'=>H'=M (cstep f st (s,names))):=by
 refine ACall.of_go TB [] tabOK _ Tryz.func85 rfl (by decide) Tryz.ntmps85 (by simp) rfl (by simp only[initEnv,Nat.reduceAdd];rfl) fun C R' hR hC hcl hB=>?_;have X:=noX;have hC':=congrArg List.length hC
 have hC':=hC'.trans (hM.len st)
 have X:=And.intro hM.X (And.intro hpb hpo)
 have hlen:=hM.len
 have hcls:∀ st',closed (M st'):=fun st'=>hM.cls hcl
 have hc2:=hc
 (refine runO ?_;with_reducible repeat' first|exact trivial|(apply Fork.mk<;>intro hb)|apply Two.mk)
 refine go_loop (fun i:Nat=>[(1,.list 1 (names.map .str)),(2,.ptr pb 0 0 0),(3,.ptr po 0 0 0),(4,.ptr n0 0 0 0),(10,.list 1 (names.map .str)),(11,.int .i64 names.length),(12,.int .i64 i)])
  (fun i=>M (incB st.1 (names.take i),st.2)++[.cells 0 8 [s.sv]]) (fun i=>names.length - i) (fun i=>i≤names.length) 0 (Nat.zero_le _) ?_ ?_
 ·exact wkS (n0:=n0) [(n0,0)] hG hB hC' (hcls _)
 ·intro K i hi hK
  (refine runO ?_;with_reducible repeat' first|exact trivial|(apply Fork.mk<;>intro hb)|apply Two.mk)
  ·have hi':i<names.length:=by omega
   have h1:=cnt_inc (names.take i) st.1 names[i]
   have h2:=hc2 names[i]
   have h3:(names.take i).count names[i]≤(names.take i).length:=List.count_le_length
   rw[List.length_take] at h3
   rw[wrap_i64 _ (by omega),← inc_snoc,← List.take_succ_eq_append_getElem hi']
   exact hK _ _ (i+1) (by omega) (by omega) (wkS (n0:=n0) [(n0,0)] hG hB hC' (hcls _))
  ·obtain rfl:i=names.length:=by omega
   rw[List.take_length]
   have hcall:=hf (M (incB st.1 names,st.2)++[.cells 0 8 [s.sv]]) ib io (incB st.1 names,st.2) (hM.X.1.1 _ _) (hM.X.1.2 _ _) hM.lt.2.2 (fun t=>by
    have h1:=cnt_inc names st.1 t
    have h2:=hc2 t
    have h3:names.count t≤names.length:=List.count_le_length
    simp only
    omega)
   rw[(hM.app _).UH] at hcall
   refine callS hcall ?_
   rintro r H' rfl
   generalize hst2:f s (incB st.1 names,st.2)=st2
   have hcn:∀ t,cntB st2.1 t=cntB st.1 t+names.count t:=fun t=>by rw[← hst2,hfc,cnt_inc]
   (refine runO ?_;with_reducible repeat' first|exact trivial|(apply Fork.mk<;>intro hb)|apply Two.mk)
   refine go_loop (fun i:Nat=>[(2,.ptr pb 0 0 0),(25,.list 1 (names.map .str)),(26,.int .i64 names.length),(27,.int .i64 i)])
    (fun i=>M (decB st2.1 (names.take i),st2.2)++[]) (fun i=>names.length - i) (fun i=>i≤names.length) 0 (Nat.zero_le _) ?_ ?_
   ·exact wkS (n0:=n0) [] hG hB hC' (hcls _)
   ·intro K2 i hi hK2
    (refine runO ?_;with_reducible repeat' first|exact trivial|(apply Fork.mk<;>intro hb)|apply Two.mk)
    ·have hi':i<names.length:=by omega
     have h1:=cnt_dec (names.take i) st2.1 names[i]
     rw[hcn] at h1
     have h2:=hc2 names[i]
     have h3:(names.take i).count names[i]≤(names.take i).length:=List.count_le_length
     have h4:names.count names[i]≤names.length:=List.count_le_length
     rw[List.length_take] at h3
     rw[wrap_i64 _ (by omega),← dec_snoc,← List.take_succ_eq_append_getElem hi']
     exact hK2 _ _ (i+1) (by omega) (by omega) (wkS (n0:=n0) [] hG hB hC' (hcls _))
    ·obtain rfl:i=names.length:=by omega
     rw[List.take_length]
     refine Fin.tellN (n0:=n0) hR (hlen _) hC' (hcls _) (.same _ rfl) ?_
     simp only[cstep,hst2]
theorem unbound_ok (G:Gl) (hG:GClosed G):∀ (m:Nat) (e:Ex),e.wt≤m→e.wt<549755813888→UnbOK G (unbF m) e
 |0,e,hw,_=>by have:=e.wt_pos;omega
 |m+1,e,hw,hw0=>by
  intro H ib io st hb ho hne hc
  obtain⟨kd,nm,nn,op,names,subs,binds,alts⟩:=e
  obtain⟨hM,hM0⟩:=UH_maps hb ho hne
  generalize UH H ib io=M at hM hM0 ⊢
  have hlt:=hM.lt
  have hlen:=hM.len
  rw[← hM0]
  refine ACall.of_go TB [] tabOK _ Tryz.func36 rfl (by decide) Tryz.ntmps36 (by simp) rfl (by simp only[initEnv,Nat.reduceAdd];rfl) fun C R' hR hC hcl hB=>?_;have X:=noX;have hC':=congrArg List.length hC
  have hC':=hC'.trans (hlen st)
  generalize H.length=n0 at hM hlt hlen hC' ⊢
  have X:=hM.X
  have hcls:∀ st',closed (M st'):=fun st'=>hM.cls hcl
  have hu:kd≠1→unbF (m+1) (.mk kd nm nn op names subs binds alts) st=(scopeParts (.mk kd nm nn op names subs binds alts)).foldl (cstep (unbF m)) st:=fun h=>by rw[unbF];exact if_neg h
  have hv:kd=1→unbF (m+1) (.mk kd nm nn op names subs binds alts) st=if cntB st.1 nm=0 then (st.1,putO st.2 nm) else st:=fun h=>by rw[unbF];exact if_pos h
  (refine run ?_;with_reducible repeat' first|exact trivial|(apply Fork.mk<;>intro hb)|apply Two.mk)
  ·refine Fin.tellN (n0:=n0) hR (hlen _) hC' (hcls _) (.same _ rfl) ?_
   have h3:= ‹(decide (kd=1)&&decide (cntB st.1 nm=0))=true›
   simp only[Bool.and_eq_true,decide_eq_true_eq] at h3
   rw[hv hb,if_pos h3.2]
  ·exfalso;simp_all
  ·refine Fin.tellN (n0:=n0) hR (hlen _) hC' (hcls _) (.same _ rfl) ?_
   have h3:= ‹(decide (kd=1)&&decide (cntB st.1 nm=0))=false›
   simp only[Bool.and_eq_false_iff,decide_eq_false_iff_not] at h3
   rw[hv hb,if_neg (by rcases h3 with h3|h3;exact absurd hb h3;exact h3)]
  ·let stI:Nat→BO:=fun i=>((scopeParts (.mk kd nm nn op names subs binds alts)).take i).foldl (cstep (unbF m)) st
   have hsc:=scopes_ok G hG (.mk kd nm nn op names subs binds alts) hw0 (.fn (.func 85) [] [.ptr (n0+1) 0 0 0,.ptr (n0+2) 0 0 0])
    (fun i=>M (stI i)++[.cells 0 8 [.agg [.int .i64 kd,.str nm,.int .i64 nn,.int .i64 op,.list 1 (names.map .str),.list 8 (exCells subs),.list 9 (bdCells binds),.list 12 (alCells alts)]],.cells 0 1 [.map ib],.cells 0 1 [.map io]]) (n0+3) (fun i=>by simp[hlen]) (by simp[SV.under,SV.underL]) (fun hc i=>(hM.app _).cls hc) (fun i p Y hp=>by
     refine ACallV.of ?_
     have hpm:=List.mem_of_getElem? hp
     have hpw:=scope_wt hpm
     have hst:stI (i+1)=cstep (unbF m) (stI i) p:=by
      have hi:=(List.getElem?_eq_some_iff.1 hp)
      obtain⟨hi1,hi2⟩:=hi
      simp only[stI,List.take_succ_eq_append_getElem hi1,List.foldl_append,List.foldl_cons,List.foldl_nil,hi2]
     have:=unbound1_ok G hG (unbF m) p.1 p.2 (unbound_ok G hG m p.1 (by omega) (by omega)) (fun st t=>unb_cnt m p.1 st t) (fun st=>(M st++[.cells 0 8 [.agg [.int .i64 kd,.str nm,.int .i64 nn,.int .i64 op,.list 1 (names.map .str),.list 8 (exCells subs),.list 9 (bdCells binds),.list 12 (alCells alts)]],.cells 0 1 [.map ib],.cells 0 1 [.map io]])++Y) _ ib io (n0+1) (n0+2) ((hM.app _).app Y)
      (fun st L=>by simp only[List.append_assoc,List.cons_append,X,List.getElem?_cons_succ,List.getElem?_cons_zero]) (fun st L=>by simp only[List.append_assoc,List.cons_append,X,List.getElem?_cons_succ,List.getElem?_cons_zero]) (by simp;omega) (stI i) (fun t=>by
       have h1:=csteps_cnt m ((scopeParts (.mk kd nm nn op names subs binds alts)).take i) st t
       have h2:=hc t
       show 0≤cntB (List.foldl (cstep (unbF m)) st _).1 t∧cntB (List.foldl (cstep (unbF m)) st _).1 t+_<_
       omega) (by omega)
     simp only[hst]
     exact this)
   simp only[show stI 0=st from rfl] at hsc
   refine callS hsc ?_
   rintro r H' rfl
   have hend:stI (scopeParts (.mk kd nm nn op names subs binds alts)).length=unbF (m+1) (.mk kd nm nn op names subs binds alts) st:=by
    rw[hu hb];simp only[stI,List.take_length]
   simp only[hend]
   (refine run ?_;with_reducible repeat' first|exact trivial|(apply Fork.mk<;>intro hb)|apply Two.mk)
   exact Fin.tellN (n0:=n0) hR (hlen _) hC' (hcls _) (.same _ rfl) rfl
theorem met_perm {l:List Str} {born:List Nat} {idx:List Nat} (hnd:idx.Nodup) (hlt:∀ i∈idx,i<l.length) (hb:born.Nodup) (hlb:born.length=l.length)
 (hall:∀ b∈born,(idx.map fun i=>born.getD i 0).toArray.contains b=true):(idx.map fun i=>l.getD i []).Perm l:=by
 have hin:∀ i,i<l.length→i∈idx:=fun i hi=>by
  have hi':i<born.length:=by omega
  have:=hall born[i] (List.getElem_mem hi')
  simp only[List.contains_toArray,List.contains_iff_mem,List.mem_map] at this
  obtain⟨j,hj,e⟩:=this
  have hj':j<born.length:=by have:=hlt j hj;omega
  rw[List.getD_eq_getElem?_getD,List.getElem?_eq_getElem hj'] at e
  simp only[Option.getD_some] at e
  obtain rfl:j=i:=(List.getElem_inj hb).1 e
  exact hj
 have hp:idx.Perm (List.range l.length):=(List.perm_ext_iff_of_nodup hnd List.nodup_range).2 fun i=>by
  rw[List.mem_range];exact⟨hlt i,hin i⟩
 have:=hp.map fun i=>l.getD i []
 refine this.trans (.of_eq ?_)
 apply List.ext_getElem?
 intro i
 rw[List.getElem?_map]
 by_cases h:i<l.length
 ·rw[List.getElem?_range h];simp[h]
 ·rw[List.getElem?_eq_none (by simpa using h),List.getElem?_eq_none (by omega)];rfl
theorem met_le {n:Nat} {idx:List Nat} (hnd:idx.Nodup) (hlt:∀ i∈idx,i<n):idx.length≤n:=by
 have hp:idx.Perm ((List.range n).filter fun i=>decide (i∈idx)):=(List.perm_ext_iff_of_nodup hnd (List.nodup_range.filter _)).2 fun i=>by
  simp only[List.mem_filter,List.mem_range,decide_eq_true_eq]
  exact⟨fun h=>⟨hlt i h,h⟩,fun h=>h.2⟩
 have h2:=List.length_filter_le (fun i=>decide (i∈idx)) (List.range n)
 rw[← hp.length_eq,List.length_range] at h2
 exact h2
theorem keys1_ok (G:Gl) (hG:GClosed G) (n1 pb n0 bm clk:Nat) (born:List Nat) (l:List Str) (vs:List SV) (hlb:born.length=l.length) (hlv:vs.length=l.length) (hnd:born.Nodup) (M:List Str→List Blk) (hlen:∀ s,(M s).length=n0) (h1:n1<n0) (hll:l.length<1099511627776)
 (hpb:∀ s L,(M s++L)[pb]? =some (.cells 0 1 [.imap bm clk born none (l.map .str) vs])) (hvs:∀ n,SV.underL n vs=true) (hcls:closed (M [])→∀ s,closed (M s))
 (hy:∀ s x X,s.length<l.length→ACallV Tryz.prog G (.it n1) [.str x] (M s++X) (fun r H'=>H'=M (s++[x])++X∧r= .bool true)):
 ACall Tryz.prog G 145 [.it n1,.ptr pb 0 0 0] (M []) (fun r H'=>∃ s,s.Perm l∧H'=M s):=by
 refine ACall.of_go TB [] tabOK _ Tryz.func145 rfl (by decide) Tryz.ntmps145 (by simp) rfl (by simp only[initEnv,Nat.reduceAdd];rfl) fun C R' hR hC hcl hB=>?_;have X:=noX;have hC':=congrArg List.length hC
 have hC':=hC'.trans (hlen [])
 have hcl:=hcls hcl
 have hpb0:∀ s,(M s)[pb]? =some (.cells 0 1 [.imap bm clk born none (l.map .str) vs]):=fun s=>by simpa using hpb s []
 have X:=And.intro (hsX M n0 hlen) (And.intro hpb hpb0)
 have hks:∀ n,SV.underL n (l.map SV.str)=true:=fun n=>strs_under n l
 have him:(SV.imap bm clk born none (l.map SV.str) vs).under n0=true:=by simp only[SV.under,hks,hvs,Bool.and_self]
 (refine run ?_;with_reducible repeat' first|exact trivial|(apply Fork.mk<;>intro hb)|apply Two.mk)
 refine go_range rfl rfl rfl ?_
 simp only[hlen]
 (refine run ?_;with_reducible repeat' first|exact trivial|(apply Fork.mk<;>intro hb)|apply Two.mk)
 refine go_loop (fun idx:List Nat=>[(0,.it n1),(4,.imap bm clk born none (l.map .str) vs),(5,.it n0)]) (fun idx=>M (idx.map fun i=>l.getD i [])++[.obj (.mapIter (some bm) clk (idx.map fun i=>born.getD i 0).toArray clk)])
  (fun idx=>l.length - idx.length) (fun idx=>idx.Nodup∧∀ i∈idx,i<l.length) [] ⟨List.nodup_nil,by simp⟩ ?_ ?_
 ·exact Wk.sub (by simp[subEnv,look])
 ·rintro K idx ⟨hi1,hi2⟩ hK
  have hle:=met_le hi1 hi2
  generalize hs:idx.map (fun i=>l.getD i [])=s
  generalize hse:(idx.map fun i=>born.getD i 0).toArray=seen
  (refine run ?_;with_reducible repeat' first|exact trivial|(apply Fork.mk<;>intro hb)|apply Two.mk)
  refine go_next (tm:=4) rfl rfl (by simp only[X,List.getElem?_cons_zero];rfl) rfl (fun hall=>?_) (fun i b q y hb hsn hq hy2=>?_)
  ·(refine run ?_;with_reducible repeat' first|exact trivial|(apply Fork.mk<;>intro hb)|apply Two.mk)
   refine Fin.tellN (n0:=n0) hR (hlen _) hC' (hcl _) (.same _ rfl) ⟨s,?_,rfl⟩
   rw[← hs]
   exact met_perm hi1 hi2 hnd hlb (fun b hb=>by rw[hse];exact hall b hb)
  ·have hi:i<l.length:=by have:=(List.getElem?_eq_some_iff.1 hb).1;omega
   have hq':q= .str l[i]:=by rw[List.getElem?_map,List.getElem?_eq_getElem hi] at hq;cases hq;rfl
   subst hq'
   have hni:i∉idx:=fun hm=>by
    rw[← hse] at hsn
    have:(idx.map fun i=>born.getD i 0).toArray.contains b=true:=by
     simp only[List.contains_toArray,List.contains_iff_mem,List.mem_map]
     exact⟨i,hm,by rw[List.getD_eq_getElem?_getD,hb];rfl⟩
    rw[this] at hsn;cases hsn
   have hlt:idx.length<l.length:=by
    have:=met_le (n:=l.length) (idx:=idx++[i]) (List.nodup_append.2 ⟨hi1,by simp,by simp;exact fun a ha e=>hni (e ▸ ha)⟩) (by simp only[List.mem_append,List.mem_singleton];exact fun a ha=>ha.elim (hi2 a) (fun e=>e ▸ hi))
    simp at this;omega
   have hsl:s.length=idx.length:=by rw[← hs];simp
   simp only[X,List.set_cons_zero]
   (refine run ?_;with_reducible repeat' first|exact trivial|(apply Fork.mk<;>intro hb)|apply Two.mk)
   refine go_entry (tm:=4) rfl rfl (by simp only[X,List.getElem?_cons_zero];rfl) hb (by rw[List.getElem?_map,List.getElem?_eq_getElem hi];rfl) hy2 rfl ?_
   (refine run ?_;with_reducible repeat' first|exact trivial|(apply Fork.mk<;>intro hb)|apply Two.mk)
   refine callV (hy s l[i] _ (by omega)) ?_
   rintro r H' ⟨rfl,rfl⟩
   (refine run ?_;with_reducible repeat' first|exact trivial|(apply Fork.mk<;>intro hb)|apply Two.mk)
   have e1:(idx++[i]).map (fun i=>l.getD i [])=s++[l[i]]:=by
    rw[List.map_append,hs];simp[hi]
   have e2:((idx++[i]).map fun i=>born.getD i 0).toArray=seen.push b:=by
    rw[List.map_append,← hse];simp[hb]
   refine hK _ _ (idx++[i]) (by simp;omega) ⟨List.nodup_append.2 ⟨hi1,by simp,by simp;exact fun a ha e=>hni (e ▸ ha)⟩,by simp only[List.mem_append,List.mem_singleton];exact fun a ha=>ha.elim (hi2 a) (fun e=>e ▸ hi)⟩ ?_
   rw[e1,e2]
   exact Wk.sub (by simp[subEnv,look])
end Go.Proofs.YtedejleokilohaaGreatDoor
section
open Go
namespace Go.Proofs
open Go.Shelf
def Tryz.lays190_ren:Go.Shelf.Ren:=⟨fun|190=>34|125=>83|258=>82|128=>132|129=>133|302=>123|303=>124|304=>125|305=>126|306=>127|307=>128|308=>129|309=>130|310=>131|333=>152|329=>153|330=>154|334=>155|335=>156|336=>157|344=>167|n=>n,fun|31=>36|9=>9|3=>3|46=>124|0=>0|51=>171|53=>173|4=>4|183=>164|182=>163|131=>46|5=>5|218=>190|222=>194|228=>208|229=>153|n=>n,fun|n=>n⟩
theorem Tryz.lays190:Go.Proofs.Lays.n190 Tryz.prog Tryz.lays190_ren:={
 mixed:=by kernel_rfl
 f125:=Tryz.func83.trans (congrArg some (by kernel_rfl))
 f128:=Tryz.func132.trans (congrArg some (by kernel_rfl))
 f129:=Tryz.func133.trans (congrArg some (by kernel_rfl))
 f190:=Tryz.func34.trans (congrArg some (by kernel_rfl))
 f258:=Tryz.func82.trans (congrArg some (by kernel_rfl))
 f302:=Tryz.func123.trans (congrArg some (by kernel_rfl))
 f303:=Tryz.func124.trans (congrArg some (by kernel_rfl))
 f304:=Tryz.func125.trans (congrArg some (by kernel_rfl))
 f305:=Tryz.func126.trans (congrArg some (by kernel_rfl))
 f306:=Tryz.func127.trans (congrArg some (by kernel_rfl))
 f307:=Tryz.func128.trans (congrArg some (by kernel_rfl))
 f308:=Tryz.func129.trans (congrArg some (by kernel_rfl))
 f309:=Tryz.func130.trans (congrArg some (by kernel_rfl))
 f310:=Tryz.func131.trans (congrArg some (by kernel_rfl))
 f329:=Tryz.func153.trans (congrArg some (by kernel_rfl))
 f330:=Tryz.func154.trans (congrArg some (by kernel_rfl))
 f333:=Tryz.func152.trans (congrArg some (by kernel_rfl))
 f334:=Tryz.func155.trans (congrArg some (by kernel_rfl))
 f335:=Tryz.func156.trans (congrArg some (by kernel_rfl))
 f336:=Tryz.func157.trans (congrArg some (by kernel_rfl))
 f344:=Tryz.func167.trans (congrArg some (by kernel_rfl))
 t0:=Tryz.underlying0
 a0:=Tryz.isAgg0
 z0:=Tryz.sizeOf0
 v0:=Tryz.zeroValue0
 t3:=Tryz.underlying3
 a3:=Tryz.isAgg3
 z3:=Tryz.sizeOf3
 v3:=Tryz.zeroValue3
 t4:=Tryz.underlying4
 a4:=Tryz.isAgg4
 z4:=Tryz.sizeOf4
 v4:=Tryz.zeroValue4
 t5:=Tryz.underlying5
 a5:=Tryz.isAgg5
 z5:=Tryz.sizeOf5
 v5:=Tryz.zeroValue5
 t9:=Tryz.underlying9
 a9:=Tryz.isAgg9
 z9:=Tryz.sizeOf9
 v9:=Tryz.zeroValue9
 t31:=Tryz.underlying36
 a31:=Tryz.isAgg36
 z31:=Tryz.sizeOf36
 v31:=Tryz.zeroValue36
 t46:=Tryz.underlying124
 a46:=Tryz.isAgg124
 z46:=Tryz.sizeOf124
 v46:=Tryz.zeroValue124
 t51:=Tryz.underlying171
 a51:=Tryz.isAgg171
 z51:=Tryz.sizeOf171
 v51:=Tryz.zeroValue171
 t53:=Tryz.underlying173
 a53:=Tryz.isAgg173
 z53:=Tryz.sizeOf173
 v53:=Tryz.zeroValue173
 t131:=Tryz.underlying46
 a131:=Tryz.isAgg46
 z131:=Tryz.sizeOf46
 v131:=Tryz.zeroValue46
 t182:=Tryz.underlying163
 a182:=Tryz.isAgg163
 z182:=Tryz.sizeOf163
 v182:=Tryz.zeroValue163
 t183:=Tryz.underlying164
 a183:=Tryz.isAgg164
 z183:=Tryz.sizeOf164
 v183:=Tryz.zeroValue164
 t218:=Tryz.underlying190
 a218:=Tryz.isAgg190
 z218:=Tryz.sizeOf190
 v218:=Tryz.zeroValue190
 t222:=Tryz.underlying194
 a222:=Tryz.isAgg194
 z222:=Tryz.sizeOf194
 v222:=Tryz.zeroValue194
 t228:=Tryz.underlying208
 a228:=Tryz.isAgg208
 z228:=Tryz.sizeOf208
 v228:=Tryz.zeroValue208
 t229:=Tryz.underlying153
 a229:=Tryz.isAgg153
 z229:=Tryz.sizeOf153
 v229:=Tryz.zeroValue153}
open Go.Sort Go.RowKit in
theorem Tryz.slices_Sort_string (blk off cap:Nat) (ss:List (List UInt8)) (w:World) (hH:Holds encStr w blk off ss.toArray) (hblk:blk<w.heap.size) (hsz:ss.length<4611686018427387904):
 Calls Tryz.prog 34 #[.slice (some ⟨blk,off,none⟩) ss.length cap] w fun e w'=>
  e= .returned (.tuple #[])∧∃ n os,w'=grow (putRow encStr (Sort.ahead w n) blk off (ss.mergeSort fun x y=>decide (x≤y)).toArray) os:=Any.slices_Sort_string Tryz.lays190 blk off cap ss w hH hblk hsz
open Go.RowKit Go.Sort in
theorem Tryz.slices_Sort_string_none (p:Option Addr) (cap:Nat) (w:World):
 Calls Tryz.prog 34 #[.slice p 0 cap] w fun e w'=>e= .returned (.tuple #[])∧w'=w:=Any.slices_Sort_string_none Tryz.lays190 p cap w
end Go.Proofs
end
namespace Go.Proofs.YtedejleokilohaaGreatDoor
open Go
theorem closed_swap {H L L':List Blk} (h:closed (H++L)) (hl:L'.length=L.length) (hu:∀ b∈L',b.under (H.length+L.length)=true):closed (H++L'):=by
 intro B hB
 rw[List.length_append,hl]
 rcases List.mem_append.1 hB with h1|h1
 ·have:=h B (List.mem_append_left _ h1)
  rwa[List.length_append] at this
 ·exact hu B h1
theorem appendSeq_ok (G:Gl) (hG:GClosed G) (pb bm clk:Nat) (born:List Nat) (l:List Str) (vs:List SV) (hlb:born.length=l.length) (hlv:vs.length=l.length) (hnd:born.Nodup) (hll:l.length<1099511627776) (H:List Blk)
 (hpb:H[pb]? =some (.cells 0 1 [.imap bm clk born none (l.map .str) vs])) (hvs:∀ n,SV.underL n vs=true):
 ACall Tryz.prog G 165 [.nil,.fn (.func 145) [] [.ptr pb 0 0 0]] H (fun r H'=>∃ s:List Str,s.Perm l∧H'=H++[.cells 0 1 (s.map .str)]∧r= .sl H.length 0 0 s.length):=by
 have hpl:pb<H.length:=(List.getElem?_eq_some_iff.1 hpb).1
 refine ACall.of_go TB [] tabOK _ Tryz.func165 rfl (by decide) Tryz.ntmps165 (by simp) rfl (by simp only[initEnv,Nat.reduceAdd];rfl) fun C R' hR hC hcl hB=>?_;have X:=noX;have hC':=congrArg List.length hC
 refine go_ownNil 0 1 rfl ?_
 (refine run ?_;with_reducible repeat' first|exact trivial|(apply Fork.mk<;>intro hb)|apply Two.mk)
 refine go_rangeFunc tabOK (σ:=List Str) (ξ:=Str) (fun s=>H++[.cells s.length 1 (s.map .str),.cells 0 1 [.sl H.length s.length 0 s.length]]) (H.length+2) (fun s=>by simp) []
  [(2,.ptr (H.length+1) 0 0 0),(6,.fn (.func 145) [] [.ptr pb 0 0 0])] (fun x=>[.str x]) (fun s x=>s.length<l.length) (fun s x=>s++[x]) (fun s=>s.Perm l)
  (fun x=>[(7,.str x),(2,.ptr (H.length+1) 0 0 0),(6,.fn (.func 145) [] [.ptr pb 0 0 0])]) rfl rfl (fun x=>rfl) (fun x=>rfl) ?_ ?_ ?_ ?_
 ·exact Wk.sub (by simp[subEnv,look])
 ·intro G' LO hGl hLO hy
  have:=keys1_ok G' (by unfold GClosed;rw[hGl];exact hG) (H.length+2) pb (H.length+3) bm clk born l vs hlb hlv hnd (fun s=>(H++[.cells s.length 1 (s.map .str),.cells 0 1 [.sl H.length s.length 0 s.length]])++[LO]) (fun s=>by simp) (by omega) hll
   (fun s L=>by simp only[List.append_assoc];rw[List.getElem?_append_left hpl];exact hpb) hvs (fun hc s=>by
    simp only[List.append_assoc] at hc ⊢
    refine closed_swap hc (by simp) (fun b hb=>?_)
    simp only[List.cons_append,List.nil_append,List.mem_cons,List.not_mem_nil,or_false] at hb
    rcases hb with rfl|rfl|rfl
    ·exact strs_under _ _
    ·simp[Blk.under,SV.underL,SV.under]
    ·simpa using hLO) (fun s x X hs=>by
     have:=hy s x X hs
     simpa only[List.append_assoc,List.cons_append,List.nil_append] using this)
  exact this.mono fun r H' ⟨s,h1,h2⟩=>⟨s,h1,h2⟩
 ·intro G' C' ρ' s x Y LO LB K1 K hGl hB' hCH hcl' hLO hLB hs hK1 hK
  have X:=noX
  have hG':GClosed G':=by unfold GClosed;rw[hGl];exact hG
  simp only[List.append_assoc,List.cons_append,List.nil_append] at hcl' hCH ⊢
  (refine run ?_;with_reducible repeat' first|exact trivial|(apply Fork.mk<;>intro hb)|apply Two.mk)
  refine hK1 _ _ (by simp[List.getElem?_append_right]) ?_
  simp only[set_app,List.set_cons_succ,List.set_cons_zero]
  (refine run ?_;with_reducible repeat' first|exact trivial|(apply Fork.mk<;>intro hb)|apply Two.mk)
  refine hK _ _ ?_
  simp only[List.append_assoc,List.cons_append,List.nil_append,List.length_append,List.length_cons,List.length_nil,List.map_append,List.map_cons,List.map_nil,Nat.zero_add]
  exact Wk.sub trivial
 ·intro s LO hs hLO
  simp only[List.append_assoc,List.cons_append,List.nil_append]
  (refine run ?_;with_reducible repeat' first|exact trivial|(apply Fork.mk<;>intro hb)|apply Two.mk)
  refine finK [(H.length,0)] (.sl H.length 0 0 s.length) [.cells 0 1 (s.map .str)] hR hC' hcl ⟨s,hs,rfl,rfl⟩
theorem collect_ok (G:Gl) (hG:GClosed G) (pb bm clk:Nat) (born:List Nat) (l:List Str) (vs:List SV) (hlb:born.length=l.length) (hlv:vs.length=l.length) (hnd:born.Nodup) (hll:l.length<1099511627776) (H:List Blk)
 (hpb:H[pb]? =some (.cells 0 1 [.imap bm clk born none (l.map .str) vs])) (hvs:∀ n,SV.underL n vs=true):
 ACall Tryz.prog G 144 [.fn (.func 145) [] [.ptr pb 0 0 0]] H (fun r H'=>∃ s:List Str,s.Perm l∧H'=H++[.cells 0 1 (s.map .str)]∧r= .sl H.length 0 0 s.length):=by
 refine ACall.of_go TB [] tabOK _ Tryz.func144 rfl (by decide) Tryz.ntmps144 (by simp) rfl (by simp only[initEnv,Nat.reduceAdd];rfl) fun C R' hR hC hcl hB=>?_;have X:=noX;have hC':=congrArg List.length hC
 (refine run ?_;with_reducible repeat' first|exact trivial|(apply Fork.mk<;>intro hb)|apply Two.mk)
 refine callS (appendSeq_ok G hG pb bm clk born l vs hlb hlv hnd hll H hpb hvs) ?_
 rintro r H' ⟨s,hs,rfl,rfl⟩
 (refine run ?_;with_reducible repeat' first|exact trivial|(apply Fork.mk<;>intro hb)|apply Two.mk)
 exact finK [(H.length,0)] (.sl H.length 0 0 s.length) [.cells 0 1 (s.map .str)] hR hC' hcl ⟨s,hs,rfl,rfl⟩
def sortS (l:List Str):List Str:=l.mergeSort fun x y=>decide (x≤y)
theorem sortS_perm (l:List Str):(sortS l).Perm l:=List.mergeSort_perm l _
theorem sortS_len (l:List Str):(sortS l).length=l.length:=(sortS_perm l).length_eq
theorem sortS_eq {s l:List Str} (h:s.Perm l):sortS s=sortS l:=Go.mergeSort_of_perm h
theorem sort_strs (G:Gl) (id g:Nat) (l:List Str) (H:List Blk) (hH:H[id]? =some (.cells g 1 (l.map .str))) (hl:l.length<4611686018427387904):
 ACall Tryz.prog G 34 [.sl id g 0 l.length] H (fun r H'=>H'=H.set id (.cells g 1 ((sortS l).map .str))∧r= .tuple []):=
 ACall.of_sort encStr .str (fun s=>s.length≤maxLen) (fun c x v=>rep_str_iff c x v) (fun _=>rfl) (fun x y=>decide (x≤y)) ⟨_,Tryz.func34,by decide,rfl⟩
  (fun blk off cap zs w h1 h2 h3=>Tryz.slices_Sort_string blk off cap zs w h1 h2 h3) (fun p cap w=>Tryz.slices_Sort_string_none p cap w) id g l H hH hl
theorem sorted_ok (G:Gl) (hG:GClosed G) (pb bm clk:Nat) (born:List Nat) (l:List Str) (vs:List SV) (hlb:born.length=l.length) (hlv:vs.length=l.length) (hnd:born.Nodup) (hll:l.length<1099511627776) (H:List Blk)
 (hpb:H[pb]? =some (.cells 0 1 [.imap bm clk born none (l.map .str) vs])) (hvs:∀ n,SV.underL n vs=true):
 ACall Tryz.prog G 106 [.fn (.func 145) [] [.ptr pb 0 0 0]] H (fun r H'=>H'=H++[.cells 0 1 ((sortS l).map .str)]∧r= .sl H.length 0 0 l.length):=by
 refine ACall.of_go TB [] tabOK _ Tryz.func106 rfl (by decide) Tryz.ntmps106 (by simp) rfl (by simp only[initEnv,Nat.reduceAdd];rfl) fun C R' hR hC hcl hB=>?_;have X:=noX;have hC':=congrArg List.length hC
 (refine run ?_;with_reducible repeat' first|exact trivial|(apply Fork.mk<;>intro hb)|apply Two.mk)
 refine callS (collect_ok G hG pb bm clk born l vs hlb hlv hnd hll H hpb hvs) ?_
 rintro r H' ⟨s,hs,rfl,rfl⟩
 (refine run ?_;with_reducible repeat' first|exact trivial|(apply Fork.mk<;>intro hb)|apply Two.mk)
 have hsl:=hs.length_eq
 refine callS (sort_strs G H.length 0 s _ (by simp) (by omega)) ?_
 rintro r H' ⟨rfl,rfl⟩
 rw[sortS_eq hs,hsl]
 simp only[set_app0,List.set_cons_zero]
 (refine run ?_;with_reducible repeat' first|exact trivial|(apply Fork.mk<;>intro hb)|apply Two.mk)
 exact finK [(H.length,0)] (.sl H.length 0 0 l.length) [.cells 0 1 ((sortS l).map .str)] hR hC' hcl ⟨rfl,rfl⟩
theorem keys_ok (G:Gl) (hG:GClosed G) (bm clk:Nat) (born:List Nat) (l:List Str) (vs:List SV) (hvs:∀ n,SV.underL n vs=true) (H:List Blk):
 ACall Tryz.prog G 107 [.imap bm clk born none (l.map .str) vs] H (fun r H'=>H'=H++[.cells 0 1 [.imap bm clk born none (l.map .str) vs]]∧r= .fn (.func 145) [] [.ptr H.length 0 0 0]):=by
 refine ACall.of_go TB [] tabOK _ Tryz.func107 rfl (by decide) Tryz.ntmps107 (by simp) rfl (by simp only[initEnv,Nat.reduceAdd];rfl) fun C R' hR hC hcl hB=>?_;have X:=noX;have hC':=congrArg List.length hC
 have hks:∀ n,SV.underL n (l.map SV.str)=true:=fun n=>strs_under n l
 (refine run ?_;with_reducible repeat' first|exact trivial|(apply Fork.mk<;>intro hb)|apply Two.mk)
 refine finK [(H.length,0)] (.fn (.func 145) [] [.ptr H.length 0 0 0]) [.cells 0 1 [.imap bm clk born none (l.map .str) vs]] hR hC' hcl ⟨rfl,rfl⟩ (.c (by exact hbS) (Nat.le_refl _) (Nat.zero_le _) (FrzL.same ?_) .nil) (by simp) (.fn _ _ _ _ _ .nil (.cons _ _ _ _ (Frz.kp 0 rfl (by exact hbS) (Nat.le_refl _) rfl rfl) .nil))
 simp only[List.drop_zero,SV.underL,SV.under,hks,hvs,Bool.and_self]
theorem scope_sum (e:Ex):((scopeParts e).map fun p=>p.1.wt).sum<e.wt:=by
 obtain⟨kd,nm,nn,op,names,subs,binds,alts⟩:=e
 have h1:∀ l:List Ex,(l.map fun x=>x.wt).sum=exsWt l:=fun l=>by
  induction l with
  |nil=>rfl
  |cons x r ih=>simp only[List.map_cons,List.sum_cons,exsWt,ih]
 have h2:∀ l:List Bd,(l.map fun b=>b.e.wt).sum≤bdsWt l:=fun l=>by
  induction l with
  |nil=>exact Nat.le_refl _
  |cons x r ih=>simp only[List.map_cons,List.sum_cons,bdsWt];have:=x.wt_gt;omega
 have h3:∀ l:List Al,(l.map fun b=>b.body.wt).sum≤alsWt l:=fun l=>by
  induction l with
  |nil=>exact Nat.le_refl _
  |cons x r ih=>simp only[List.map_cons,List.sum_cons,alsWt];have:=x.wt_gt;omega
 have:=h1 subs;have:=h2 binds;have:=h3 alts
 simp only[scopeParts,List.map_append,List.map_map,Function.comp_def,List.sum_append,Ex.wt]
 omega
theorem putO_len (l:List Str) (s:Str):(putO l s).length≤l.length+1:=by
 unfold putO
 split<;>simp
theorem unb_len:∀ (m:Nat) (e:Ex) (st:BO),(unbF m e st).2.length≤st.2.length+e.wt
 |0,e,st=>by simp[unbF]
 |m+1,e,st=>by
  rw[unbF]
  have hp:=e.wt_pos
  split
  ·split
   ·have:=putO_len st.2 e.name;simp only;omega
   ·omega
  ·have hs:=scope_sum e
   generalize scopeParts e=l at hs
   have key:∀ (l:List (Ex×List Str)) (st:BO),(l.foldl (cstep (unbF m)) st).2.length≤st.2.length+(l.map fun p=>p.1.wt).sum:=fun l=>by
    induction l with
    |nil=>intro st;exact Nat.le_refl _
    |cons p l ih=>
     intro st
     rw[List.foldl_cons]
     have h1:=ih (cstep (unbF m) st p)
     have h2:=unb_len m p.1 (incB st.1 p.2,st.2)
     simp only[List.map_cons,List.sum_cons]
     have e:(cstep (unbF m) st p).2.length=(unbF m p.1 (incB st.1 p.2,st.2)).2.length:=rfl
     rw[e] at h1
     simp only at h2
     omega
   have:=key l st
   omega
def freeS (e:Ex):List Str:=sortS (unbF e.wt e ([],[])).2
theorem free_ok (G:Gl) (hG:GClosed G) (e:Ex) (H:List Blk) (hw:e.wt<549755813888):ACall Tryz.prog G 57 [e.sv] H (fun r H'=>H'=H++[.cells 0 1 ((freeS e).map .str)]∧r= .sl H.length 0 0 (freeS e).length):=by
 refine ACall.of_go TB [] tabOK _ Tryz.func57 rfl (by decide) Tryz.ntmps57 (by simp) rfl (by simp only[initEnv,Nat.reduceAdd];rfl) fun C R' hR hC hcl hB=>?_;have X:=noX;have hC':=congrArg List.length hC
 have hcall:=unbound_ok G hG e.wt e (Nat.le_refl _) hw (H++[.cells 0 8 [e.sv],.map none [],.map none []]) (H.length+2) (H.length+1) ([],[]) (by simp[esB]) (by simp[esO]) (by omega) (fun s=>by simp only[cntB];omega)
 have hlen:=unb_len e.wt e ([],[])
 have hfl:(freeS e).length=(unbF e.wt e ([],[])).2.length:=sortS_len _
 generalize hst:unbF e.wt e ([],[])=st at hcall hlen hfl
 (refine run ?_;with_reducible repeat' first|exact trivial|(apply Fork.mk<;>intro hb)|apply Two.mk)
 refine callS hcall ?_
 rintro r H' rfl
 simp only[UH,set_app,List.set_cons_succ,List.set_cons_zero]
 refine go_nil ?_
 refine go_pin (t:=3) (io:=H.length+1) (kd:=none) (es:=esO st.2) (by exact hbS) (by omega) hB rfl (fun bm clk born hb hnd=>?_)
 have e1:(esO st.2).map Prod.fst=st.2.map .str:=by simp[esO]
 have e2:(esO st.2).map Prod.snd=st.2.map fun _=> .bool true:=by simp[esO]
 have e3:(esO st.2).length=st.2.length:=by simp[esO]
 rw[e1,e2]
 rw[e3] at hb
 simp only[set_app,List.set_cons_succ,List.set_cons_zero]
 (refine run ?_;with_reducible repeat' first|exact trivial|(apply Fork.mk<;>intro hb)|apply Two.mk)
 refine callS (keys_ok G hG bm clk born st.2 _ (fun n=>SV.underL_map fun _ _=>rfl) _) ?_
 rintro r H' ⟨rfl,rfl⟩
 simp only[List.append_assoc,List.cons_append,List.nil_append,List.length_append,List.length_cons,List.length_nil,List.length_set,X,Nat.reduceAdd]
 (refine run ?_;with_reducible repeat' first|exact trivial|(apply Fork.mk<;>intro hb)|apply Two.mk)
 refine callS (sorted_ok G hG (H.length+3) bm clk born st.2 (st.2.map fun _=> .bool true) hb (by simp) hnd (by simp only at hlen;simp at hlen;omega) _ (by rw[get_app];rfl) (fun n=>SV.underL_map fun _ _=>rfl)) ?_
 rintro r H' ⟨rfl,rfl⟩
 simp only[List.append_assoc,List.cons_append,List.nil_append,List.length_append,List.length_cons,List.length_nil,List.length_set,X,Nat.reduceAdd]
 (refine run ?_;with_reducible repeat' first|exact trivial|(apply Fork.mk<;>intro hb)|apply Two.mk)
 have e4:sortS st.2=freeS e:=by rw[freeS,hst]
 rw[e4,← hfl]
 exact finK [(H.length+4,0)] (.sl H.length 0 0 (freeS e).length) [.cells 0 1 ((freeS e).map .str)] hR hC' hcl ⟨rfl,rfl⟩
theorem each_ok (G:Gl) (hG:GClosed G) (e:Ex) (hw:e.wt<549755813888) (fv:SV) (Hs:Nat→List Blk) (n0:Nat) (hlen:∀ i,(Hs i).length=n0) (hfu:fv.under n0=true) (hcls:closed (Hs 0)→∀ i,closed (Hs i))
 (hy:∀ i p X,e.parts[i]? =some p→ACallV Tryz.prog G fv [p.sv] (Hs i++X) (fun r H'=>H'=Hs (i+1)++X∧r= .bool true)):
 ACall Tryz.prog G 77 [e.sv,fv] (Hs 0) (fun r H'=>H'=Hs e.parts.length∧r= .bool true):=by
 obtain⟨kd,nm,nn,op,names,subs,binds,alts⟩:=e
 have hle:=Ex.wt_lens kd nm nn op names subs binds alts
 rw[Ex.parts_mk] at hy ⊢
 have hpl:(subs++(binds.map Bd.e++alts.map Al.body)).length=subs.length+binds.length+alts.length:=by simp;omega
 have p1:∀ i (h:i<subs.length),(subs++(binds.map Bd.e++alts.map Al.body))[i]? =some subs[i]:=fun i h=>by
  rw[List.getElem?_append_left h,List.getElem?_eq_getElem h]
 have p2:∀ i (h:i<binds.length),(subs++(binds.map Bd.e++alts.map Al.body))[subs.length+i]? =some binds[i].e:=fun i h=>by
  rw[List.getElem?_append_right (by omega),Nat.add_sub_cancel_left,List.getElem?_append_left (by simpa using h),List.getElem?_map,List.getElem?_eq_getElem h];rfl
 have p3:∀ i (h:i<alts.length),(subs++(binds.map Bd.e++alts.map Al.body))[subs.length+(binds.length+i)]? =some alts[i].body:=fun i h=>by
  rw[List.getElem?_append_right (by omega),Nat.add_sub_cancel_left,List.getElem?_append_right (by simp),List.length_map,Nat.add_sub_cancel_left,List.getElem?_map,List.getElem?_eq_getElem h];rfl
 refine ACall.of_go TB [] tabOK _ Tryz.func77 rfl (by decide) Tryz.ntmps77 (by simp) rfl (by simp only[initEnv,Nat.reduceAdd];rfl) fun C R' hR hC hcl hB=>?_;have X:=noX;have hC':=congrArg List.length hC
 have hcl:=hcls hcl
 have hC':=hC'.trans (hlen 0)
 have X:=hsX Hs n0 hlen
 (refine runO ?_;with_reducible repeat' first|exact trivial|(apply Fork.mk<;>intro hb)|apply Two.mk)
 refine go_loop (fun i:Nat=>[(1,fv),(2,.ptr n0 0 0 0),(12,.list 8 (exCells subs)),(13,.int .i64 subs.length),(14,.int .i64 i)])
  (fun i=>Hs i++[.cells 0 8 [.agg [.int .i64 kd,.str nm,.int .i64 nn,.int .i64 op,.list 1 (names.map .str),.list 8 (exCells subs),.list 9 (bdCells binds),.list 12 (alCells alts)]]]) (fun i=>subs.length - i) (fun i=>i≤subs.length) 0 (Nat.zero_le _) ?_ ?_
 ·exact wkS (n0:=n0) [(n0,0)] hG hB hC' (hcl 0)
 rintro K i hi hK
 (refine runO ?_;with_reducible repeat' first|exact trivial|(apply Fork.mk<;>intro hb)|apply Two.mk)
 ·refine callV (hy i _ _ (p1 i (by omega))) ?_
  rintro r H' ⟨rfl,rfl⟩
  (refine runO ?_;with_reducible repeat' first|exact trivial|(apply Fork.mk<;>intro hb)|apply Two.mk)
  refine hK _ _ (i+1) (by omega) (by omega) ?_
  exact wkS (n0:=n0) [(n0,0)] hG hB hC' (hcl (i+1))
 obtain rfl:i=subs.length:=by omega
 clear hK
 refine go_loop (fun i:Nat=>[(1,fv),(2,.ptr n0 0 0 0),(24,.list 9 (bdCells binds)),(25,.int .i64 binds.length),(26,.int .i64 i)])
  (fun i=>Hs (subs.length+i)++[.cells 0 8 [.agg [.int .i64 kd,.str nm,.int .i64 nn,.int .i64 op,.list 1 (names.map .str),.list 8 (exCells subs),.list 9 (bdCells binds),.list 12 (alCells alts)]]]) (fun i=>binds.length - i) (fun i=>i≤binds.length) 0 (Nat.zero_le _) ?_ ?_
 ·exact wkS (n0:=n0) [(n0,0)] hG hB hC' (hcl _)
 rintro K i hi hK
 (refine runO ?_;with_reducible repeat' first|exact trivial|(apply Fork.mk<;>intro hb)|apply Two.mk)
 ·refine callV (hy (subs.length+i) _ _ (p2 i (by omega))) ?_
  rintro r H' ⟨rfl,rfl⟩
  (refine runO ?_;with_reducible repeat' first|exact trivial|(apply Fork.mk<;>intro hb)|apply Two.mk)
  refine hK _ _ (i+1) (by omega) (by omega) ?_
  exact wkS (n0:=n0) [(n0,0)] hG hB hC' (hcl _)
 obtain rfl:i=binds.length:=by omega
 clear hK
 refine go_loop (fun i:Nat=>[(1,fv),(2,.ptr n0 0 0 0),(37,.list 12 (alCells alts)),(38,.int .i64 alts.length),(39,.int .i64 i)])
  (fun i=>Hs (subs.length+(binds.length+i))++[.cells 0 8 [.agg [.int .i64 kd,.str nm,.int .i64 nn,.int .i64 op,.list 1 (names.map .str),.list 8 (exCells subs),.list 9 (bdCells binds),.list 12 (alCells alts)]]]) (fun i=>alts.length - i) (fun i=>i≤alts.length) 0 (Nat.zero_le _) ?_ ?_
 ·exact wkS (n0:=n0) [(n0,0)] hG hB hC' (hcl _)
 rintro K i hi hK
 (refine runO ?_;with_reducible repeat' first|exact trivial|(apply Fork.mk<;>intro hb)|apply Two.mk)
 ·refine callV (hy (subs.length+(binds.length+i)) _ _ (p3 i (by omega))) ?_
  rintro r H' ⟨rfl,rfl⟩
  (refine runO ?_;with_reducible repeat' first|exact trivial|(apply Fork.mk<;>intro hb)|apply Two.mk)
  refine hK _ _ (i+1) (by omega) (by omega) ?_
  exact wkS (n0:=n0) [(n0,0)] hG hB hC' (hcl _)
 obtain rfl:i=alts.length:=by omega
 refine Fin.tellN (n0:=n0) hR (hlen _) hC' (hcl _) (.same _ rfl) ⟨?_,rfl⟩
 rw[hpl,Nat.add_assoc]
def szC (n:Int):Blk:= .cells 0 1 [.int .i64 n]
theorem size1_ok (G:Gl) (hG:GClosed G) (x:Ex) (H:List Blk) (n:Int) (nb:Nat) (h1:H[nb]? =some (szC n)) (h2:0≤n) (h3:n+1<4611686018427387904):
 ACall Tryz.prog G 76 [x.sv,.ptr nb 0 0 0] H (fun r H'=>H'=H.set nb (szC (n+1))∧r= .bool true):=by
 have hlt:nb<H.length:=(List.getElem?_eq_some_iff.1 h1).1
 refine ACall.of_go TB [] tabOK _ Tryz.func76 rfl (by decide) Tryz.ntmps76 (by simp) rfl (by simp only[initEnv,Nat.reduceAdd];rfl) fun C R' hR hC hcl hB=>?_;have X:=noX;have hC':=congrArg List.length hC
 have X:=h1
 unfold szC at X
 (refine run ?_;with_reducible repeat' first|exact trivial|(apply Fork.mk<;>intro hb)|apply Two.mk)
 exact Fin.tellN (n0:=H.length) hR (by simp) hC' (hcl.set rfl) (.same _ rfl) ⟨rfl,rfl⟩
theorem sum_wtE {α:Type} (f:List α→Nat) (g:α→Nat) (h0:f []=0) (h1:∀ x l,f (x::l)=g x+f l):∀ l,f l=(l.map g).sum
 |[]=>by simp[h0]
 |x::l=>by rw[h1,sum_wtE f g h0 h1 l];simp
theorem exsSize_sum (l:List Ex):exsSize l=(l.map Ex.size).sum:=sum_wtE exsSize _ (by simp[exsSize]) (fun x l=>by simp only[exsSize]) l
theorem bdsSize_sum (l:List Bd):bdsSize l=((l.map Bd.e).map Ex.size).sum:=by
 rw[List.map_map];exact sum_wtE bdsSize _ (by simp[bdsSize]) (fun x l=>by cases x;simp only[bdsSize,Bd.size,Function.comp_def,Bd.e]) l
theorem alsSize_sum (l:List Al):alsSize l=((l.map Al.body).map Ex.size).sum:=by
 rw[List.map_map];exact sum_wtE alsSize _ (by simp[alsSize]) (fun x l=>by cases x;simp only[alsSize,Al.size,Function.comp_def,Al.body]) l
theorem Ex.size_parts (e:Ex):e.size=1+(e.parts.map Ex.size).sum:=by
 obtain⟨kd,nm,nn,op,names,subs,binds,alts⟩:=e
 rw[Ex.parts_mk,Ex.size,exsSize_sum,bdsSize_sum,alsSize_sum,List.map_append,List.map_append,List.sum_append,List.sum_append]
 omega
theorem sum_take_le {l:List Nat}:∀ (i:Nat),(l.take i).sum≤l.sum:=by
 induction l with
 |nil=>intro i;simp
 |cons x r ih=>
  intro i
  cases i with
  |zero=>simp
  |succ i=>simp only[List.take_succ_cons,List.sum_cons];have:=ih i;omega
def AllC (G:Gl) (m:Nat):Prop:=∀ (e:Ex) (H:List Blk) (n:Int) (nb:Nat),e.wt≤m→H[nb]? =some (szC n)→0≤n→n+e.size<4611686018427387904→
 ACall Tryz.prog G 32 [e.sv,.fn (.func 76) [] [.ptr nb 0 0 0]] H (fun r H'=>H'=H.set nb (szC (n+e.size))∧r= .bool true)
theorem all1_ok (G:Gl) (hG:GClosed G) (m:Nat) (hrec:AllC G m) (p:Ex) (H:List Blk) (n:Int) (nb ib:Nat) (hp:p.wt≤m) (h1:H[nb]? =some (szC n)) (hib:H[ib]? =some (.cells 0 1 [.fn (.func 76) [] [.ptr nb 0 0 0]])) (h2:0≤n) (h3:n+p.size<4611686018427387904):
 ACall Tryz.prog G 80 [p.sv,.ptr ib 0 0 0] H (fun r H'=>H'=H.set nb (szC (n+p.size))∧r= .bool true):=by
 have hlt:nb<H.length:=(List.getElem?_eq_some_iff.1 h1).1
 have hlt2:ib<H.length:=(List.getElem?_eq_some_iff.1 hib).1
 refine ACall.of_go TB [] tabOK _ Tryz.func80 rfl (by decide) Tryz.ntmps80 (by simp) rfl (by simp only[initEnv,Nat.reduceAdd];rfl) fun C R' hR hC hcl hB=>?_;have X:=noX;have hC':=congrArg List.length hC
 have X:=And.intro h1 hib
 (refine run ?_;with_reducible repeat' first|exact trivial|(apply Fork.mk<;>intro hb)|apply Two.mk)
 refine callS (hrec p _ n nb hp (by rw[get_old hlt];exact h1) h2 h3) ?_
 rintro r H' ⟨rfl,rfl⟩
 rw[set_old hlt]
 (refine run ?_;with_reducible repeat' first|exact trivial|(apply Fork.mk<;>intro hb)|apply Two.mk)
 exact Fin.tellN (n0:=H.length) hR (by simp) hC' (hcl.set rfl) (.same _ rfl) ⟨rfl,rfl⟩
theorem all_ok (G:Gl) (hG:GClosed G):∀ m,m<549755813888→AllC G m
 |0,_,e,_,_,_,h,_,_,_=>absurd e.wt_pos (by omega)
 |m+1,hm2,e,H,n,nb,hm,h1,h2,h3=>by
  have hlt:nb<H.length:=(List.getElem?_eq_some_iff.1 h1).1
  have hsz:=e.size_parts
  have hrec:=all_ok G hG m (by omega)
  have hs0:=e.size_pos
  refine ACall.of_go TB [] tabOK _ Tryz.func32 rfl (by decide) Tryz.ntmps32 (by simp) rfl (by simp only[initEnv,Nat.reduceAdd];rfl) fun C R' hR hC hcl hB=>?_;have X:=noX;have hC':=congrArg List.length hC
  (refine run ?_;with_reducible repeat' first|exact trivial|(apply Fork.mk<;>intro hb)|apply Two.mk)
  refine callV (ACallV.of (first:=[]) (args:=[e.sv]) (cap:=[.ptr nb 0 0 0]) (size1_ok G hG e _ n nb (by rw[get_old hlt];exact h1) h2 (by omega))) ?_
  rintro r H' ⟨rfl,rfl⟩
  rw[set_old hlt]
  (refine run ?_;with_reducible repeat' first|exact trivial|(apply Fork.mk<;>intro hb)|apply Two.mk)
  have hw:∀ i,n+1+(((e.parts.take i).map Ex.size).sum:Nat)≤n+e.size:=fun i=>by
   have:=sum_take_le (l:=e.parts.map Ex.size) i
   rw[← List.map_take] at this
   omega
  have hk:∀ (i:Nat) (L:List Blk),((H.set nb (szC (n+1+(((e.parts.take i).map Ex.size).sum:Nat)))++L))[nb]? =some (szC (n+1+(((e.parts.take i).map Ex.size).sum:Nat))):=fun i L=>get_oldS hlt
  have heach:=each_ok G hG e (by omega) (.fn (.func 80) [] [.ptr (H.length+1) 0 0 0]) (fun i=>H.set nb (szC (n+1+(((e.parts.take i).map Ex.size).sum:Nat)))++[.cells 0 8 [.agg e.cells],.cells 0 1 [.fn (.func 76) [] [.ptr nb 0 0 0]]]) (H.length+2) (fun i=>by simp) (by simp[SV.under,SV.underL])
   (fun h i=>by have:=h.set (id:=nb) (b:=szC (n+1+(((e.parts.take i).map Ex.size).sum:Nat))) rfl;rwa[set_oldS hlt] at this) (fun i p X hp=>by
    have hpw:=Ex.wt_parts (List.mem_of_getElem? hp)
    have hlp:=(List.getElem?_eq_some_iff.1 hp)
    have hnx:((e.parts.take (i+1)).map Ex.size).sum=((e.parts.take i).map Ex.size).sum+p.size:=by
     rw[List.take_succ_eq_append_getElem hlp.1,hlp.2];simp
    have hwi:=hw (i+1)
    refine ACallV.of (first:=[]) (args:=[p.sv]) (cap:=[.ptr (H.length+1) 0 0 0]) ((all1_ok G hG m hrec p _ (n+1+(((e.parts.take i).map Ex.size).sum:Nat)) nb (H.length+1) (by omega) (by rw[List.append_assoc];exact hk i _) (by rw[List.append_assoc];simp) (by omega) (by omega)).mono ?_)
    rintro r H' ⟨rfl,rfl⟩
    refine⟨?_,rfl⟩
    rw[List.append_assoc,set_oldS hlt,hnx,List.append_assoc]
    congr 3
    omega)
  rw[show n+1+((((e.parts.take 0).map Ex.size).sum:Nat):Int)=n+1 by simp] at heach
  refine callS heach ?_
  rintro r H' ⟨rfl,rfl⟩
  rw[List.take_length,show n+1+(((e.parts.map Ex.size).sum:Nat):Int)=n+e.size by omega]
  (refine run ?_;with_reducible repeat' first|exact trivial|(apply Fork.mk<;>intro hb)|apply Two.mk)
  exact Fin.tellN (n0:=H.length) hR (by simp) hC' (hcl.set rfl) (.same _ rfl) ⟨rfl,rfl⟩
theorem size_ok (G:Gl) (hG:GClosed G) (e:Ex) (H:List Blk) (hw:e.wt<549755813887) (hs:e.size<4611686018427387904):ACall Tryz.prog G 27 [e.sv] H (fun r H'=>H'=H∧r= .int .i64 e.size):=by
 refine ACall.of_go TB [] tabOK _ Tryz.func27 rfl (by decide) Tryz.ntmps27 (by simp) rfl (by simp only[initEnv,Nat.reduceAdd];rfl) fun C R' hR hC hcl hB=>?_;have X:=noX;have hC':=congrArg List.length hC
 (refine run ?_;with_reducible repeat' first|exact trivial|(apply Fork.mk<;>intro hb)|apply Two.mk)
 refine callS (all_ok G hG e.wt (by omega) e _ 0 (H.length+1) (Nat.le_refl _) (by rw[get_app];rfl) (by omega) (by omega)) ?_
 rintro r H' ⟨rfl,rfl⟩
 rw[set_app,szC,Int.zero_add]
 simp only[List.set_cons_succ,List.set_cons_zero]
 (refine run ?_;with_reducible repeat' first|exact trivial|(apply Fork.mk<;>intro hb)|apply Two.mk)
 exact Fin.tellN (n0:=H.length) hR (by simp) hC' hcl (.same _ rfl) ⟨rfl,rfl⟩
def shp:Nat→Ex→Prop
 |0,_=>True
 |m+1,e=>(e.kind≠6→e.alts=[])∧(e.kind≠5→e.binds=[])∧∀ p∈e.parts,shp m p

theorem exs_le:∀ l:List Ex,(l.map Ex.wt).sum≤exsWt l
 |[]=>Nat.le_refl _
 |x::l=>by simp only[List.map_cons,List.sum_cons,exsWt];have:=exs_le l;omega
theorem bds_le:∀ l:List Bd,((l.map Bd.e).map Ex.wt).sum≤bdsWt l
 |[]=>Nat.le_refl _
 |x::l=>by simp only[List.map_cons,List.sum_cons,bdsWt];have:=bds_le l;have:=x.wt_gt;omega
theorem als_le:∀ l:List Al,((l.map Al.body).map Ex.wt).sum≤alsWt l
 |[]=>Nat.le_refl _
 |x::l=>by simp only[List.map_cons,List.sum_cons,alsWt];have:=als_le l;have:=x.wt_gt;omega
theorem parts_wt (e:Ex):1+(e.parts.map Ex.wt).sum≤e.wt:=by
 obtain⟨kd,nm,nn,op,names,subs,binds,alts⟩:=e
 rw[Ex.parts_mk,List.map_append,List.map_append,List.sum_append,List.sum_append,Ex.wt]
 have:=exs_le subs
 have:=bds_le binds
 have:=als_le alts
 omega
theorem sum_le {α:Type} {f g:α→Nat}:∀ {l:List α},(∀ x∈l,f x≤g x)→(l.map f).sum≤(l.map g).sum
 |[],_=>Nat.le_refl _
 |x::l,h=>by
  have h1:=h x (List.mem_cons_self ..)
  have h2:=sum_le fun y hy=>h y (List.mem_cons_of_mem _ hy)
  simp only[List.map_cons,List.sum_cons];omega
theorem size_le_wt:∀ (m:Nat) (e:Ex),e.wt≤m→e.size≤e.wt
 |0,e,h=>absurd e.wt_pos (by omega)
 |m+1,e,h=>by
  rw[e.size_parts]
  have h1:=parts_wt e
  have h2:=sum_le (f:=Ex.size) (g:=Ex.wt) (l:=e.parts) fun p hp=>size_le_wt m p (by have:=Ex.wt_parts hp;omega)
  omega
def maxL (l:List Nat):Nat:=l.foldl max 0
theorem maxL_app (l:List Nat) (x:Nat):maxL (l++[x])=max (maxL l) x:=by simp[maxL,List.foldl_append]
theorem maxL_le {n:Nat}:∀ {l:List Nat},(∀ x∈l,x≤n)→maxL l≤n:=by
 intro l h
 have key:∀ (l:List Nat) (a:Nat),a≤n→(∀ x∈l,x≤n)→l.foldl max a≤n:=by
  intro l
  induction l with
  |nil=>intro a ha _;exact ha
  |cons x r ih=>intro a ha h;exact ih _ (Nat.max_le.2 ⟨ha,h x (List.mem_cons_self ..)⟩) (fun y hy=>h y (List.mem_cons_of_mem _ hy))
 exact key l 0 (Nat.zero_le _) h
def depF:Nat→Ex→Nat
 |0,_=>0
 |m+1,e=>maxL (e.parts.map (depF m))+1
theorem depF_le:∀ (m:Nat) (e:Ex),depF m e≤m
 |0,_=>Nat.le_refl _
 |m+1,e=>by
  have:=maxL_le (n:=m) (l:=e.parts.map (depF m)) (fun x hx=>by
   obtain⟨p,_,rfl⟩:=List.mem_map.1 hx
   exact depF_le m p)
  unfold depF
  omega
def dep (e:Ex):Nat:=depF e.wt e
def bndF:Nat→Ex→List Str
 |0,_=>[]
 |m+1,.mk kd nm _ _ names subs binds alts=>(if kd=3 then names else [])++subs.flatMap (bndF m)++binds.flatMap (fun b=>b.name::bndF m b.e)++(if kd=6 then [nm] else [])++alts.flatMap (fun a=>a.names++bndF m a.body)
theorem flat_len {α:Type} {f:α→List Str} {g:List α→Nat} {w:α→Nat} (h0:g []=0) (h1:∀ x l,g (x::l)=w x+g l):∀ {l:List α},(∀ x∈l,(f x).length≤w x)→(l.flatMap f).length≤g l
 |[],_=>by simp
 |x::r,h=>by
  have h2:=flat_len (l:=r) h0 h1 (fun y hy=>h y (List.mem_cons_of_mem _ hy))
  have h3:=h x (List.mem_cons_self ..)
  rw[List.flatMap_cons,List.length_append,h1]
  omega
theorem bndF_len:∀ (m:Nat) (e:Ex),(bndF m e).length≤e.wt
 |0,e=>by simp[bndF]
 |m+1,.mk kd nm nn op names subs binds alts=>by
  have h1:(subs.flatMap (bndF m)).length≤exsWt subs:=flat_len (w:=Ex.wt) rfl (fun _ _=>rfl) fun x _=>bndF_len m x
  have h2:(binds.flatMap (fun b=>b.name::bndF m b.e)).length≤bdsWt binds:=flat_len (w:=Bd.wt) rfl (fun _ _=>rfl) fun b _=>by
   have:=bndF_len m b.e
   have:=b.wt_gt
   simp only[List.length_cons];omega
  have h3:(alts.flatMap (fun a=>a.names++bndF m a.body)).length≤alsWt alts:=flat_len (w:=Al.wt) rfl (fun _ _=>rfl) fun a _=>by
   have:=bndF_len m a.body
   obtain⟨k,s,n,l,e⟩:=a
   have:=strsWt_len l
   simp only[Al.wt,Al.names,Al.body,List.length_append] at*;omega
  have h4:=strsWt_len names
  have h5:(if kd=3 then names else []).length≤names.length:=by split<;>simp
  have h6:(if kd=6 then [nm] else []).length≤1:=by split<;>simp
  simp only[bndF,List.length_append,Ex.wt]
  omega
def bnds (e:Ex):List Str:=bndF e.wt e
end Go.Proofs.YtedejleokilohaaGreatDoor
