/- A part of the proof: SwN, SwO, K2, X1, Sh2, Sh3, Q1, X5, X3, U1, U2, U6, U8, U4, V1, W1, W2, W3, W4, Shelf, W5, W6, Y4, Y5, Y6. Names and spaces are cut short by program. -/
import Derived.Test.YtedejleokilohaaGreatDoorMf
import Derived.Lib.AtoiErrMem
import Derived.Test.YtedejleokilohaaGreatDoorCards
import Derived.Test.YtedejleokilohaaGreatDoorTie
import Derived.Deep.DeepHandedRow
import Derived.Lib.LaidTab
import Derived.Stop.LaidErr
import Derived.Shelf.Strconv.AtoiErr
import Derived.Shelf.SlMaps.Clone
import Derived.Test.YtedejleokilohaaGreatDoorProg
import Derived.Shelf.LaysM
import Derived.Shelf.Strconv.Itoa3
import Derived.Shelf.Strconv.AtoiAll
import Derived.Lib.SmallJoins
import Derived.Lib.AppendIntMem
import Derived.Sort.KeysCollected
import Derived.Shelf.Sort.Plain
import Derived.Shelf.Slices.In.SortNone
set_option linter.unusedSimpArgs false
set_option linter.unusedVariables false
set_option maxRecDepth 10000
set_option maxHeartbeats 4000000
namespace Go.Proofs.YtedejleokilohaaGreatDoor
open Go
section
mutual
def SV.same:SV→SV→Bool
 | .undef,y=>(match y with| .undef=>true|_=>false)
 | .bool a,y=>(match y with| .bool b=>a==b|_=>false)
 | .int k n,y=>(match y with| .int k' n'=>decide (k=k')&&decide (n=n')|_=>false)
 | .str s,y=>(match y with| .str t=>decide (s=t)|_=>false)
 | .agg xs,y=>(match y with| .agg ys=>SV.mZ xs ys|_=>false)
 | .nil,y=>(match y with| .nil=>true|_=>false)
 | .list a xs,y=>(match y with| .list b ys=>Nat.beq a b&&SV.mZ xs ys|_=>false)
 | .ptr a b c d,y=>(match y with| .ptr a' b' c' d'=>Nat.beq a a'&&Nat.beq b b'&&Nat.beq c c'&&Nat.beq d d'|_=>false)
 | .sl a b c d,y=>(match y with| .sl a' b' c' d'=>Nat.beq a a'&&Nat.beq b b'&&Nat.beq c c'&&Nat.beq d d'|_=>false)
 | .map a,y=>(match y with| .map b=>Nat.beq a b|_=>false)
 | .bM,y=>(match y with| .bM=>true|_=>false)
 | .aV,y=>(match y with| .aV=>true|_=>false)
 | .ae,y=>(match y with| .ae=>true|_=>false)
 | .gW a,y=>(match y with| .gW b=>a==b|_=>false)
 | .tuple xs,y=>(match y with| .tuple ys=>SV.mZ xs ys|_=>false)
 | .iR x,y=>(match y with| .iR z=>SV.same x z|_=>false)
 | .fn f xs ys,y=>(match f,y with| .func a,.fn (.func b) us vs=>Nat.beq a b&&SV.mZ xs us&&SV.mZ ys vs|_,_=>false)
 |_,_=>false
def SV.mZ:List SV→List SV→Bool
 |[],ys=>(match ys with|[]=>true|_=>false)
 |x::xs,ys=>(match ys with|y::ys=>SV.same x y&&SV.mZ xs ys|_=>false)
end
theorem SV.gl:(∀ x:SV,∀ y,SV.same x y=true→x=y)∧(∀ xs:List SV,∀ ys,SV.mZ xs ys=true→xs=ys):=by
 refine SV.both (fun x h1 h2 h3 h4 h5 h6 y h=>?_) (fun fs ih y h=>?_) (fun n xs ih y h=>?_) (fun x ih y h=>?_) (fun f a b ia ib y h=>?_) (fun xs ih y h=>?_) (fun b clk born kd ks vs i1 i2 y h=>?_) (fun ys h=>?_) (fun x xs ix ixs ys h=>?_)
 ·cases x<;>first|(exact(h1 _ rfl).elim)|(exact(h2 _ _ rfl).elim)|(exact(h3 _ rfl).elim)|(exact(h4 _ _ _ rfl).elim)|(exact(h5 _ rfl).elim)|(exact(h6 _ _ _ _ _ _ rfl).elim)|(cases y<;>simp_all [SV.same])
 ·cases y<;>simp only[SV.same] at h<;>first|(cases h;done)|(rw[ih _ h])
 ·cases y<;>simp only[SV.same,Bool.and_eq_true] at h<;>first|(cases h;done)|(obtain⟨h1,h2⟩:=h;rw[ih _ h2,Nat.eq_of_beq_eq_true h1])
 ·cases y<;>simp only[SV.same] at h<;>first|(cases h;done)|(rw[ih _ h])
 ·simp only[SV.same] at h
  split at h
  ·simp only[Bool.and_eq_true] at h
   obtain⟨⟨h1,h2⟩,h3⟩:=h
   rw[Nat.eq_of_beq_eq_true h1,ia _ h2,ib _ h3]
  ·cases h
 ·cases y<;>simp only[SV.same] at h<;>first|(cases h;done)|(rw[ih _ h])
 ·simp[SV.same] at h
 ·cases ys with
  |nil=>rfl
  |cons=>simp[SV.mZ] at h
 ·cases ys with
  |nil=>simp[SV.mZ] at h
  |cons y ys=>simp only[SV.mZ,Bool.and_eq_true] at h;rw[ix _ h.1,ixs _ h.2]
def qB:Option SV→Option SV→Bool
 |some a,some b=>SV.same a b
 |none,none=>true
 |_,_=>false
theorem se {a b:Option SV} (h:qB a b=true):a=b:=by
 cases a<;>cases b<;>simp only[qB] at h<;>first|rfl|(cases h;done)|(rw[SV.gl.1 _ _ h])
def uh:List (SV×SV)→List (SV×SV)→Bool
 |[],ys=>(match ys with|[]=>true|_=>false)
 |(a,b)::xs,ys=>(match ys with|(c,d)::ys=>SV.same a c&&SV.same b d&&uh xs ys|_=>false)
theorem xN:∀ {xs ys:List (SV×SV)},uh xs ys=true→xs=ys
 |[],ys,h=>by cases ys with
  |nil=>rfl
  |cons=>simp[uh] at h
 |(a,b)::xs,ys,h=>by cases ys with
  |nil=>simp[uh] at h
  |cons y ys=>
   obtain⟨c,d⟩:=y
   simp only[uh,Bool.and_eq_true] at h
   rw[SV.gl.1 _ _ h.1.1,SV.gl.1 _ _ h.1.2,xN h.2]
def oL:List SV→Nat→List SV→Bool
 |[],_,ys=>(match ys with|[]=>true|_=>false)
 |x::xs,c,ys=>(match ys with
  |[]=>false
  |y::ys=>(match c with
   |0=>bif (bif oL xs 255 ys then true else false) then SV.same x y else false
   |c+1=>bif SV.same x y then oL xs c ys else false))
theorem sx:∀ {xs:List SV} {c:Nat} {ys:List SV},oL xs c ys=true→xs=ys
 |[],c,ys,h=>by
  cases ys with
  |nil=>rfl
  |cons=>simp[oL] at h
 |x::xs,c,ys,h=>by
  cases ys with
  |nil=>simp[oL] at h
  |cons y ys=>
   cases c with
   |zero=>
    simp only[oL] at h
    cases h1:oL xs 255 ys with
    |false=>rw[h1] at h;cases h
    |true=>rw[h1] at h;rw[sx h1,SV.gl.1 _ _ h]
   |succ c=>
    simp only[oL] at h
    cases h1:SV.same x y with
    |false=>rw[h1] at h;cases h
    |true=>rw[h1,cond_true] at h;rw[sx h,SV.gl.1 _ _ h1]
def SV.zQ:SV→Bool
 | .bool _=>true
 | .int _ _=>true
 | .str _=>true
 |_=>false
def SV.wR:SV→Bool
 | .agg xs=>xs.all SV.zQ
 |x=>SV.zQ x
theorem SV.pY {n:Nat} {x:SV} (h:x.zQ=true):x.under n=true:=by
 cases x<;>first|rfl|(cases h;done)
theorem SV.nT {n:Nat}:∀ {xs:List SV},xs.all SV.zQ=true→SV.aB n xs=true
 |[],_=>rfl
 |x::xs,h=>by
  simp only[List.all_cons,Bool.and_eq_true] at h
  simp only[SV.aB,SV.pY h.1,SV.nT h.2,Bool.and_self]
theorem SV.pZ {n:Nat} {x:SV} (h:x.wR=true):x.under n=true:=by
 cases x<;>first|exact SV.pY h|(simp only[SV.under];exact SV.nT h)
def rA:List SV→Nat→Bool
 |[],_=>true
 |x::xs,c=>(match c with
  |0=>bif (bif rA xs 255 then true else false) then x.wR else false
  |c+1=>bif x.wR then rA xs c else false)
theorem lF {n:Nat}:∀ {xs:List SV} {c:Nat},rA xs c=true→SV.aB n xs=true
 |[],c,_=>rfl
 |x::xs,c,h=>by
  cases c with
  |zero=>
   simp only[rA] at h
   cases h1:rA xs 255 with
   |false=>rw[h1] at h;cases h
   |true=>
    rw[h1] at h
    simp only[SV.aB,SV.pZ (show x.wR=true from h),lF h1,Bool.and_self]
  |succ c=>
   simp only[rA] at h
   cases h1:x.wR with
   |false=>rw[h1] at h;cases h
   |true=>
    rw[h1,cond_true] at h
    simp only[SV.aB,SV.pZ h1,lF h,Bool.and_self]
def az.same:az→az→Bool
 | .cells g sz xs,y=>(match y with| .cells g' sz' ys=>Nat.beq g g'&&Nat.beq sz sz'&&oL xs 255 ys|_=>false)
 | .map kd es,y=>(match y with| .map kd' es'=>decide (kd=kd')&&uh es es'|_=>false)
 | .dead,y=>(match y with| .dead=>true|_=>false)
 |_,_=>false
theorem az.FN {a b:az} (h:az.same a b=true):a=b:=by
 cases a with
 |cells g sz xs=>cases b with
  |cells g' sz' ys=>
   simp only[az.same,Bool.and_eq_true] at h
   rw[Nat.eq_of_beq_eq_true h.1.1,Nat.eq_of_beq_eq_true h.1.2,sx h.2]
  |_=>simp[az.same] at h
 |map kd es=>cases b with
  |map kd' es'=>
   simp only[az.same,Bool.and_eq_true,decide_eq_true_eq] at h
   rw[h.1,xN h.2]
  |_=>simp[az.same] at h
 |obj o=>simp[az.same] at h
 |dead=>cases b with
  |dead=>rfl
  |_=>simp[az.same] at h
def oM:List az→List az→Bool
 |[],ys=>(match ys with|[]=>true|_=>false)
 |x::xs,ys=>(match ys with|y::ys=>az.same x y&&oM xs ys|_=>false)
theorem sA:∀ {xs ys:List az},oM xs ys=true→xs=ys
 |[],ys,h=>by cases ys with
  |nil=>rfl
  |cons=>simp[oM] at h
 |x::xs,ys,h=>by cases ys with
  |nil=>simp[oM] at h
  |cons y ys=>
   simp only[oM,Bool.and_eq_true] at h
   rw[az.FN h.1,sA h.2]
abbrev RC:=FuncId→List SV→List az→Option (SV×List az)
def uE (P:Program) (G:Gl) (call:RC):Prop:=∀ f xs H x H',call f xs H=some (x,H')→ag P G f xs H (fun r H2=>H2=H'∧r=x)
def G2 (G:Gl) (T:aE) (env:Env) (H:List az):Op→Option SV
 | .binOp .eql t x y _=>ob (ev G env x) fun X=>ob (ev G env y) fun Y=>match Y with
  | .nil=>ed (fE T t=2) (ob (oP H X) fun n=>bif Nat.beq n 0 then none else some (.bool false))
  |_=>none
 | .binOp .neq t x y _=>ob (ev G env x) fun X=>ob (ev G env y) fun Y=>match Y with
  | .nil=>ed (fE T t=2) (ob (oP H X) fun n=>bif Nat.beq n 0 then none else some (.bool true))
  |_=>none
 |_=>none
def mT:Env→Nat→Option SV
 |[],_=>none
 |(k,v)::r,t=>bif Nat.beq t k then some v else mT r t
theorem fS:∀ (env:Env) (t:Nat),mT env t=look env t
 |[],_=>rfl
 |(k,v)::r,t=>by
  unfold mT look
  cases h:Nat.beq t k with
  |true=>rw[cond_true,if_pos (Nat.eq_of_beq_eq_true h)]
  |false=>
   rw[cond_false,if_neg (fun e=>by rw[e,Nat.beq_refl] at h;cases h)]
   exact fS r t
def fw (env:Env):List Operand→Env
 |[]=>[]
 | .tmp t::r=>(match mT env t with
  |some v=>(t,v)::fw env r
  |none=>fw env r)
 |_::r=>fw env r
theorem kT {env:Env} {t:Nat} {v:SV}:∀ {l:List Operand},look (fw env l) t=some v→look env t=some v
 |[],h=>by cases h
 |x::r,h=>by
  cases x with
  |tmp s=>
   unfold fw at h
   rw[fS] at h
   cases hs:look env s with
   |none=>rw[hs] at h;exact kT h
   |some u=>
    rw[hs] at h
    have h:(if t=s then some u else look (fw env r) t)=some v:=h
    by_cases e:t=s
    ·rw[if_pos e] at h;rw[e,hs];exact h
    ·rw[if_neg e] at h;exact kT h
  |_=>exact kT (l:=r) h
theorem jn {env:Env} {t:Nat}:∀ {l:List Operand},Operand.tmp t∈l→look (fw env l) t=look env t
 |x::r,h=>by
  cases x with
  |tmp s=>
   unfold fw
   rw[fS]
   cases hs:look env s with
   |some u=>
    show(if t=s then some u else look (fw env r) t)=_
    by_cases e:t=s
    ·rw[if_pos e,e,hs]
    ·rw[if_neg e]
     rcases List.mem_cons.1 h with h|h
     ·cases h;exact(e rfl).elim
     ·exact jn h
   |none=>
    show look (fw env r) t=_
    by_cases e:t=s
    ·rw[e,hs]
     cases hr:look (fw env r) s with
     |none=>rfl
     |some u=>rw[kT hr] at hs;cases hs
    ·rcases List.mem_cons.1 h with h|h
     ·cases h;exact(e rfl).elim
     ·exact jn h
  |_=>
   rcases List.mem_cons.1 h with h|h
   ·cases h
   ·exact jn (l:=r) h
theorem BE {G:Gl} {env:Env} {l:List Operand} {x:Operand} (h:x∈l):ev G (fw env l) x=ev G env x:=by
 cases x with
 |tmp t=>exact jn h
 |_=>rfl
def Ad (l:List SV) (n:Nat):Bool:=match n with
 |0=>true
 |n+1=>match l.drop n with
  |[]=>false
  |_::_=>true
theorem Dt {l:List SV} {n:Nat} (h:Ad l n=true):n≤l.length:=by
 cases n with
 |zero=>exact Nat.zero_le _
 |succ n=>
  rcases Nat.lt_or_ge n l.length with h2|h2
  ·exact h2
  ·have h3:(match l.drop n with
    |[]=>false
    |_::_=>true)=true:=h
   rw[List.drop_eq_nil_of_le h2] at h3
   cases h3
def KT (G:Gl) (T:aE) (env:Env) (H:List az):Op→Option (SV×List az)
 | .call ⟨.builtin .copy,⟨[d,s]⟩,⟨[t,ts]⟩⟩=>ob (elemOf T t) fun e=>ob (elemOf T ts) fun _=>ob (ev G env d) fun dv=>ob (ev G env s) fun sv=>ob (ee H sv) fun ys=>bb (kU H e.2.size sv)
  (match dv with
  | .sl id g off len=>ob (db H id g) fun b=>bb (Nat.beq b.1 e.2.size&&Nat.blt 0 e.2.size&&Ad b.2 (off+len))
   (some (.int .i64 (min ys.length len:Nat),H.set id (.cells g e.2.size (b.2.take off++ys.take (min ys.length len)++b.2.drop (off+min ys.length len))))) none
  |_=>none) none
 |_=>none
theorem GH {G:Gl} {T:aE} {own:List Nat} {env:Env} {H:List az} {dst:Option Nat} {ty:Nat} {op:Op} {r:SV×List az} (h:KT G T env H op=some r):lv G T own env H dst ty op=some r:=by
 unfold KT at h
 split at h
 ·obtain⟨e,h1,h⟩:=aL h
  obtain⟨e',h2,h⟩:=aL h
  obtain⟨dv,h3,h⟩:=aL h
  obtain⟨sv,h4,h⟩:=aL h
  obtain⟨ys,h5,h⟩:=aL h
  rcases tp h with⟨h6,h⟩|⟨_,h⟩
  ·cases dv with
   |sl id g off len=>
    obtain⟨b,h7,h⟩:=aL h
    rcases tp h with⟨h8,h⟩|⟨_,h⟩
    ·simp only[Bool.and_eq_true] at h8
     obtain⟨⟨a1,a2⟩,a3⟩:=h8
     have a1:=Nat.eq_of_beq_eq_true a1
     have a2:0<e.2.size:=by simpa [Nat.blt_eq] using a2
     have a3:=Dt a3
     rw[← h]
     unfold lv
     simp only[ob,h1,h2,h3,h4,h5,h6,ed,copyV,h7,a1,a2,a3,and_self,if_true,Option.bind_some]
    ·cases h
   |_=>cases h
  ·cases h
 ·cases h
def vo (G:Gl) (T:aE) (own:List Nat) (env:Env) (H:List az) (dst:Option Nat) (ty:Nat) (op:Op):Option (SV×List az):=
 match qv G T own env H dst ty op with
 |some v=>some (v,H)
 |none=>match KT G T env H op with
  |some r=>some r
  |none=>match lv G T own env H dst ty op with
   |some r=>some r
   |none=>match La G T env H op with
    |some r=>some r
    |none=>match G2 G T env H op with
     |some v=>some (v,H)
     |none=>none
def CB (call:RC) (G:Gl) (T:aE) (own:List Nat) (env:Env) (H:List az) (dst:Option Nat) (ty:Nat):Op→Option (SV×List az)
 | .call ⟨.value f,args,_⟩=>ob (ev G env f) fun fv=>ob (jL G env args.toList) fun xs=>match fv with
  | .fn (.func g) first cap=>call g (first++xs++cap) H
  |_=>none
 |op=>vo G T own env H dst ty op
section
variable {P:Program} {G:Gl} {T:aE} {own:List Nat} {nt:Nat} {C:Cx} {call:RC}
theorem Fz {env:Env} {H:List az} {dst:Option Nat} {ty:Nat} {op:Op} {v:SV} {k:SV→List az→Prop} (h:G2 G T env H op=some v) (hk:k v H):c7 P G T own env H dst ty op k:=by
 unfold G2 at h
 split at h
 ·obtain⟨X,h1,h⟩:=aL h
  obtain⟨Y,h2,h⟩:=aL h
  split at h
  ·obtain⟨h3,h⟩:=bH h
   obtain⟨n,h4,h⟩:=aL h
   cases hn:Nat.beq n 0 with
   |true=>rw[hn] at h;cases h
   |false=>
    rw[hn] at h
    cases h
    refine my (eq:=true) h1 h2 h3 h4 (fun e=>?_) hk
    subst e
    cases hn
  ·cases h
 ·obtain⟨X,h1,h⟩:=aL h
  obtain⟨Y,h2,h⟩:=aL h
  split at h
  ·obtain⟨h3,h⟩:=bH h
   obtain⟨n,h4,h⟩:=aL h
   cases hn:Nat.beq n 0 with
   |true=>rw[hn] at h;cases h
   |false=>
    rw[hn] at h
    cases h
    refine my (eq:=false) h1 h2 h3 h4 (fun e=>?_) hk
    subst e
    cases hn
  ·cases h
 ·cases h
theorem za {env:Env} {H H':List az} {dst:Option Nat} {ty:Nat} {op:Op} {v:SV} {k:SV→List az→Prop} (h:vo G T own env H dst ty op=some (v,H')) (hk:k v H'):c7 P G T own env H dst ty op k:=by
 unfold vo at h
 split at h
 ·rename_i hq;cases h;exact ua hq hk
 ·split at h
  ·rename_i hq;cases h;exact xg (GH hq) hk
  split at h
  ·rename_i hq;cases h;exact xg hq hk
  ·split at h
   ·rename_i hq;cases h;exact G1 hq hk
   ·split at h
    ·rename_i hq;cases h;exact Fz hq hk
    ·cases h
theorem E4 (hc:uE P G call) {env:Env} {H H':List az} {dst:Option Nat} {ty:Nat} {op:Op} {v:SV} {k:SV→List az→Prop} (h:CB call G T own env H dst ty op=some (v,H')) (hk:k v H'):c7 P G T own env H dst ty op k:=by
 unfold CB at h
 split at h
 ·obtain⟨fv,h1,h⟩:=aL h
  obtain⟨xs,h2,h⟩:=aL h
  split at h
  ·refine⟨_,h1,xs,h2,bL.of ((hc _ _ _ _ _ h).mono ?_)⟩
   rintro r H2 ⟨rfl,rfl⟩
   exact hk
  ·cases h
 ·exact za h hk
theorem nN (hc:uE P G call) {env:Env} {H H':List az} {dst:Option Nat} {ty:Nat} {op:Op} {v:SV} {k:SV→List az→Prop} (h:CB call G T own (fw env (gi op)) H dst ty op=some (v,H')) (hk:k v H'):c7 P G T own env H dst ty op k:=by
 rw[← pX (env:=fw env (gi op)) (fun x hx=>BE hx)]
 exact E4 hc h hk
def He (nt:Nat) (d:Option Nat) (x:SV) (env:Env):Option Env:=match d with
 |some d=>bif Nat.blt d nt then some ((d,x)::env) else none
 |none=>some env
theorem vp {d:Option Nat} {x:SV} {env env':Env} {k:Env→Prop} (h:He nt d x env=some env') (hk:k env'):kM nt d x env k:=by
 cases d with
 |none=>cases h;exact hk
 |some d=>
  unfold He at h
  cases hb:Nat.blt d nt with
  |true=>simp only[hb,cond_true,Option.some.injEq] at h;subst h;exact⟨by simpa [Nat.blt_eq] using hb,hk⟩
  |false=>simp only[hb,cond_false] at h;cases h
end
section
variable (call:RC) (G:Gl) (T:aE) (own:List Nat) (nt:Nat)
def GJ (all:List Oper) (o:Oper) (env:Env) (H:List az):Option (SV×List az):=
 match o.guard with
 |none=>CB call G T own (fw env (gi o.op)) H o.dst o.type o.op
 |some (j,want)=>ob ((all[j]?).bind (·.dst)) fun dj=>ob (mT env dj) fun v=>ob (uI v) fun b=>bb (b==some want) (CB call G T own (fw env (gi o.op)) H o.dst o.type o.op) (some (.undef,H))
def zP (all:List Oper):List Oper→Env→List az→Option (Env×List az)
 |[],env,H=>some (env,H)
 |o::r,env,H=>match GJ call G T own all o env H with
  |some (x,H')=>(match He nt o.dst x env with
   |some env'=>zP all r env' H'
   |none=>none)
  |none=>none
def Gu (all:List Oper) (env:Env) (H:List az):List Nat→Bool
 |[]=>true
 |i::r=>(match all[i]? with
  |some o=>qB (qg G T own all o env H) ((o.dst).bind (look env))
  |none=>false)&&Gu all env H r
def dstsOf (all:List Oper):List Nat:=all.filterMap (·.dst)
def sB (e1 e2:Env):List Nat→Bool
 |[]=>true
 |t::r=>qB (mT e1 t) (mT e2 t)&&sB e1 e2 r
end
section
variable {P:Program} {G:Gl} {T:aE} {own:List Nat} {nt:Nat} {C:Cx} {call:RC} {ρ:Option Nat}
theorem Fb (hc:uE P G call) {all:List Oper} {o:Oper} {env:Env} {H H':List az} {x:SV} {k:SV→List az→Prop} (h:GJ call G T own all o env H=some (x,H')) (hk:k x H'):la P G T own all o env H k:=by
 unfold GJ at h
 unfold la
 cases hgd:o.guard with
 |none=>
  simp only[hgd] at h
  exact nN hc h hk
 |some jw=>
  obtain⟨j,want⟩:=jw
  simp only[hgd] at h
  obtain⟨dj,h1,h⟩:=aL h
  obtain⟨v,h2,h⟩:=aL h
  rw[fS] at h2
  obtain⟨b,h3,h⟩:=aL h
  refine⟨dj,h1,v,h2,b,h3,fun e=>?_,fun e=>?_⟩
  ·rw[e] at h;exact nN hc h hk
  ·rw[e] at h;cases h;exact hk
theorem wL (hc:uE P G call) {all:List Oper}:∀ (l:List Oper) {env env':Env} {H H':List az} {k:Env→List az→Prop},zP call G T own nt all l env H=some (env',H')→k env' H'→iZ P G T own nt all l env H k
 |[],env,env',H,H',k,h,hk=>by cases h;exact hk
 |o::r,env,env',H,H',k,h,hk=>by
  unfold zP at h
  split at h
  ·rename_i x H1 hg
   split at h
   ·rename_i env1 hp
    have ih:=wL hc r h hk
    unfold GJ at hg
    unfold iZ
    cases hgd:o.guard with
    |none=>
     simp only[hgd] at hg
     exact nN (k:=fun x H'=>kM nt o.dst x env fun env'=>iZ P G T own nt all r env' H' k) hc hg (vp hp ih)
    |some jw=>
     obtain⟨j,want⟩:=jw
     simp only[hgd] at hg
     obtain⟨dj,h1,hg⟩:=aL hg
     obtain⟨v,h2,hg⟩:=aL hg
     rw[fS] at h2
     obtain⟨b,h3,hg⟩:=aL hg
     refine⟨dj,h1,v,h2,b,h3,fun e=>?_,fun e=>?_⟩
     ·rw[e] at hg;exact nN (k:=fun x H'=>kM nt o.dst x env fun env'=>iZ P G T own nt all r env' H' k) hc hg (vp hp ih)
     ·rw[e] at hg;cases hg;exact vp hp ih
   ·cases h
  ·cases h
theorem BZ {all:List Oper} {env:Env} {H:List az}:∀ {l:List Nat},Gu G T own all env H l=true→eI G T own all env H l
 |[],_=>trivial
 |i::r,h=>by
  unfold Gu at h
  rw[Bool.and_eq_true] at h
  obtain⟨h1,h2⟩:=h
  split at h1
  ·rename_i o ho
   exact⟨⟨o,ho,se h1⟩,BZ h2⟩
  ·cases h1
theorem CD {all:List Oper} {n m:Nat} {ex:List Nat} {env:Env} {H:List az} {K:Env→List az→Prop} (hm:Nat.ble all.length m=true) (h:K env H):(fx P G T own all) (n+1) m ex env H K:=fun L hL=>by
 have hall:∀ i o,all[i]? =some o→i∈L:=fun i o ho=>(hL i).2 (ky.2 (.inl (by
  have h1:=(List.getElem?_eq_some_iff.1 ho).1
  have h2:=Nat.le_of_ble_eq_true hm
  omega)))
 exact .inr ⟨fun i o ho hn=>(hn (hall i o ho)).elim,.inl ⟨hall,h⟩⟩
theorem Dr.up {all:List Oper} {K:Env→List az→Prop}:∀ (n:Nat) {L:List Nat} {env:Env} {H:List az},Dr P G T own all n L env H K→Dr P G T own all (n+1) L env H K
 |0,_,_,_,h=>h.elim
 |n+1,L,env,H,h=>by
  rcases h with⟨i,o,v,h1,h2,h3,h4,h5,h6⟩|⟨h1,h2⟩
  ·exact .inl ⟨i,o,v,h1,h2,h3,h4,h5,Dr.up n h6⟩
  ·refine .inr ⟨h1,?_⟩
   rcases h2 with h2|⟨h2,h3⟩
   ·exact .inl h2
   ·exact .inr ⟨h2,fun j o a1 a2 a3=>jM (fun x H' hx=>⟨hx.1,Dr.up n hx.2⟩) (h3 j o a1 a2 a3)⟩
theorem fx.le {all:List Oper} {m:Nat} {ex:List Nat} {env:Env} {H:List az} {K:Env→List az→Prop} {n n':Nat} (hn:n≤n') (h:fx P G T own all n m ex env H K):fx P G T own all n' m ex env H K:=by
 induction hn with
 |refl=>exact h
 |step _ ih=>exact fun L hL=>Dr.up _ (ih L hL)
theorem fx.Gk {all:List Oper} {m:Nat} {ex:List Nat} {env:Env} {H:List az} {K K':Env→List az→Prop} {n:Nat} (hk:∀ e h,K e h→K' e h) (h:fx P G T own all n m ex env H K):fx P G T own all n m ex env H K':=by
 have key:∀ (n:Nat) {L:List Nat} {env:Env} {H:List az},Dr P G T own all n L env H K→Dr P G T own all n L env H K':=by
  intro n
  induction n with
  |zero=>intro L env H h;exact h.elim
  |succ n ih=>
   intro L env H h
   rcases h with⟨i,o,v,h1,h2,h3,h4,h5,h6⟩|⟨h1,h2⟩
   ·exact .inl ⟨i,o,v,h1,h2,h3,h4,h5,ih h6⟩
   ·refine .inr ⟨h1,?_⟩
    rcases h2 with⟨h2,h3⟩|⟨h2,h3⟩
    ·exact .inl ⟨h2,hk _ _ h3⟩
    ·exact .inr ⟨h2,fun j o a1 a2 a3=>jM (fun x H' hx=>⟨hx.1,ih hx.2⟩) (h3 j o a1 a2 a3)⟩
 exact fun L hL=>key n (h L hL)
theorem Dy {all:List Oper} {i:Nat} {o:Oper} (ho:all[i]? =some o) {d:Nat} (hd:o.dst=some d):d∈dstsOf all:=
 List.mem_filterMap.2 ⟨o,List.mem_of_getElem? ho,hd⟩
theorem mH {all:List Oper} {i:Nat} {o:Oper} (ho:all[i]? =some o) {x:SV} {env:Env} {t:Nat} (ht:t∉dstsOf all):look (cX o.dst x env) t=look env t:=by
 cases hd:o.dst with
 |none=>rfl
 |some d=>
  show(if t=d then some x else look env t)=look env t
  rw[if_neg (fun e=>ht (by rw[e];exact Dy ho hd))]
theorem qe {e1 e2:Env}:∀ {l:List Nat},sB e1 e2 l=true→∀ t∈l,look e1 t=look e2 t
 |t::r,h,s,hs=>by
  simp only[sB,Bool.and_eq_true] at h
  rcases List.mem_cons.1 hs with rfl|hs
  ·have:=se h.1
   rwa[fS,fS] at this
  ·exact qe h.2 s hs
theorem common {P:Nat→Nat→Prop} (hP:∀ j n n',n≤n'→P n j→P n' j):∀ (l:List Nat),(∀ j∈l,∃ N,P N j)→∃ N,∀ j∈l,P N j
 |[],_=>⟨0,fun _ h=>by cases h⟩
 |j::r,h=>by
  obtain⟨N1,h1⟩:=h j (List.mem_cons_self ..)
  obtain⟨N2,h2⟩:=common hP r (fun j hj=>h j (List.mem_cons_of_mem _ hj))
  refine⟨max N1 N2,fun j' hj'=>?_⟩
  rcases List.mem_cons.1 hj' with rfl|hj'
  ·exact hP _ _ _ (Nat.le_max_left ..) h1
  ·exact hP _ _ _ (Nat.le_max_right ..) (h2 j' hj')
end
def MP (G:Gl) (env:Env):Operand→Option SV
 | .tmp t=>mT env t
 |x=>ev G env x
theorem CH {G:Gl} {env:Env} (x:Operand):MP G env x=ev G env x:=by
 cases x with
 |tmp t=>exact fS env t
 |_=>rfl
def Hz:List Nat→Env→Env
 |_,[]=>[]
 |seen,(t,x)::r=>bif fq t seen then Hz seen r else (t,x)::Hz (t::seen) r
theorem ri:∀ (env:Env) (seen:List Nat) (t:Nat) (x:SV),look (Hz seen env) t=some x→t∉seen∧look env t=some x
 |[],seen,t,x,h=>by cases h
 |(s,y)::r,seen,t,x,h=>by
  unfold Hz at h
  cases hm:fq s seen with
  |true=>
   rw[hm,cond_true] at h
   obtain⟨h1,h2⟩:=ri r seen t x h
   refine⟨h1,?_⟩
   unfold look
   rw[if_neg (fun e=>h1 (by rw[e];exact dz.1 hm))]
   exact h2
  |false=>
   rw[hm,cond_false] at h
   unfold look at h ⊢
   by_cases e:t=s
   ·rw[if_pos e] at h ⊢
    refine⟨fun hi=>?_,h⟩
    rw[e] at hi
    rw[dz.2 hi] at hm
    cases hm
   ·rw[if_neg e] at h ⊢
    obtain⟨h1,h2⟩:=ri r (s::seen) t x h
    exact⟨fun hi=>h1 (List.mem_cons_of_mem _ hi),h2⟩
section
variable (call:RC) (G:Gl) (T:aE) (own:List Nat) (nt:Nat)
end
section
variable {P:Program} {G:Gl} {T:aE} {own:List Nat} {nt:Nat} {C:Cx} {call:RC} {ρ:Option Nat}
end
def iu (f:SV→Option SV):List SV→Option (List SV)
 |[]=>some []
 |x::r=>match f x with
  |some y=>(match iu f r with
   |some ys=>some (y::ys)
   |none=>none)
  |none=>none
def wT (H:List az) (n:Nat):Nat→SV→Option SV
 |0,_=>none
 |d+1,x=>bif x.under n then some x else match x with
  | .agg fs=>(match iu (wT H n d) fs with
   |some ys=>some (.agg ys)
   |none=>none)
  | .tuple fs=>(match iu (wT H n d) fs with
   |some ys=>some (.tuple ys)
   |none=>none)
  | .list sz fs=>(match iu (wT H n d) fs with
   |some ys=>some (.list sz ys)
   |none=>none)
  | .sl id g off len=>bif Nat.ble n id then (match H[id]? with
   |some (.cells g' sz vals)=>bif Nat.beq g g' then (match iu (wT H n d) ((vals.drop off).take len) with
    |some ys=>some (.list sz ys)
    |none=>none) else none
   |_=>none) else none
  |_=>none
theorem lH {H:List az} {n:Nat} {f:SV→Option SV} (hf:∀ x y,f x=some y→bV H n [] x y):∀ {xs ys:List SV},iu f xs=some ys→de H n [] xs ys
 |[],ys,h=>by cases h;exact .nil
 |x::r,ys,h=>by
  unfold iu at h
  split at h
  ·rename_i y hy
   split at h
   ·rename_i zs hzs
    cases h
    exact .cons _ _ _ _ (hf _ _ hy) (lH hf hzs)
   ·cases h
  ·cases h
theorem nV {H:List az} {n:Nat}:∀ (d:Nat) (x y:SV),wT H n d x=some y→bV H n [] x y
 |0,x,y,h=>by cases h
 |d+1,x,y,h=>by
  unfold wT at h
  cases hu:x.under n with
  |true=>rw[hu,cond_true] at h;cases h;exact .same _ hu
  |false=>
   rw[hu,cond_false] at h
   cases x with
   |agg fs=>
    simp only at h
    split at h
    ·rename_i ys hy;cases h;exact .agg _ _ (lH (nV d) hy)
    ·cases h
   |tuple fs=>
    simp only at h
    split at h
    ·rename_i ys hy;cases h;exact .tuple _ _ (lH (nV d) hy)
    ·cases h
   |list sz fs=>
    simp only at h
    split at h
    ·rename_i ys hy;cases h;exact .list _ _ _ (lH (nV d) hy)
    ·cases h
   |sl id g off len=>
    simp only at h
    cases hb:Nat.ble n id with
    |false=>rw[hb] at h;cases h
    |true=>
     rw[hb,cond_true] at h
     split at h
     ·rename_i g' sz vals hH
      cases hg:Nat.beq g g' with
      |false=>rw[hg] at h;cases h
      |true=>
       rw[hg,cond_true] at h
       have hg:=Nat.eq_of_beq_eq_true hg
       subst hg
       split at h
       ·rename_i ys hy;cases h;exact .sl _ _ _ _ _ _ _ hH (Nat.le_of_ble_eq_true hb) (by simp) (lH (nV d) hy)
       ·cases h
     ·cases h
   |_=>cases h
def az.pL (n:Nat):az→Bool
 | .cells _ _ vals=>bif Ad vals 1000 then rA vals 255 else SV.aB n vals
 |b=>b.under n
theorem az.oV {n:Nat} {b:az} (h:b.pL n=true):b.under n=true:=by
 cases b with
 |cells g sz vals=>
  simp only[az.pL] at h
  cases h1:Ad vals 1000 with
  |true=>rw[h1,cond_true] at h;exact lF h
  |false=>rw[h1,cond_false] at h;exact h
 |_=>exact h
def HC (n0:Nat) (x:SV) (H':List az):SV×List az:=bif Nat.ble n0 H'.length&&(H'.take n0).all (·.pL n0) then (match wT H' n0 12 x with
 |some y=>(y,H'.take n0)
 |none=>(x,H')) else (x,H')
theorem Fe {C:Cx} {H':List az} {x:SV} {n0:Nat} (hC:C.H.length=n0):Fin C H' x (fun r H2=>H2=(HC n0 x H').2∧r=(HC n0 x H').1):=by
 unfold HC
 cases hb:(Nat.ble n0 H'.length&&(H'.take n0).all (·.pL n0)) with
 |false=>exact Fin.same ⟨rfl,rfl⟩
 |true=>
  simp only[cond_true]
  simp only[Bool.and_eq_true] at hb
  obtain⟨h1,h3⟩:=hb
  have hlen:(H'.take n0).length=n0:=by rw[List.length_take];exact Nat.min_eq_left (Nat.le_of_ble_eq_true h1)
  have hcl:closed (H'.take n0):=fun B hB=>by rw[hlen];exact az.oV (List.all_eq_true.1 h3 B hB)
  cases hy:wT H' n0 12 x with
  |none=>exact Fin.same ⟨rfl,rfl⟩
  |some y=>
   have hfz:bV (H'.take n0++H'.drop n0) n0 [] x y:=by rw[List.take_append_drop];exact nV _ _ _ hy
   have key:Fin C (H'.take n0++H'.drop n0) x (fun r H2=>H2=H'.take n0∧r=y):=Fin.dx (fun _ _ h=>h) hlen hC hcl hfz ⟨rfl,rfl⟩
   rwa[List.take_append_drop] at key
section
variable (P:Program) (G:Gl) (T:aE) (ow:FuncId→List Nat) (gc:FuncId→Bool) (ov:RC) (fuel:Nat)
end
theorem ag.lift {P:Program} {G0 G:Gl} {f:FuncId} {b:Bool} (C0:Cx) (hb:G0.base=some C0) (hb2:G.base=some C0) (h0:C0.H=[]) (hG:aw G0) (hs:∀ p∈G0.l,p∈G.l) (h:ag P G0 f [] [] (fun r _=>r= .bool b)) (H:List az):ag P G f [] H (fun r H'=>H'=H∧r= .bool b):=by
 refine⟨h.1,fun c vs hH hc hg hv=>?_⟩
 subst hH
 have h00:=Cx.cut (θ:=c.θ) (H:=[]) (X:=c.H) (w:=c.w) hc (fun B hB=>by cases hB)
 have hg0:yf G0 ⟨c.θ,[],c.w⟩:=⟨fun p hp=>(aG.il (θ:=c.θ) (H:=[]) (X:=c.H) (w:=c.w)).1 _ _ (hg.1 p (hs p hp)) (hG p hp),fun C1 e=>by
  rw[hb] at e
  cases e
  exact h00.2 C0 (by rw[h0];exact Nat.le_refl _) (hg.2 C0 hb2)⟩
 have hv0:aD ⟨c.θ,[],c.w⟩ [] vs:=hv
 refine(h.2 ⟨c.θ,[],c.w⟩ vs rfl h00.1 hg0 hv0).mono ?_
 rintro e w' ⟨v,x,c',e1,e2,e3,e4,e5,e6⟩
 subst e2
 have hold:∀ k,k<c.w.heap.size→c'.w.heap[k]? =c.w.heap[k]? :=fun k hk=>e6.Bo k hk (fun⟨id,o,⟨B,hB,_⟩,_⟩=>by cases hB)
 obtain⟨g1,g2⟩:=Cx.world hc (w':=c'.w) hold e6.size e6.os e6.tape e6.output
 exact⟨v,x,{ c with w:=c'.w},e1,rfl,⟨rfl,e3⟩,g2,by rw[e3] at e5 ⊢;exact e5,g1⟩
end
theorem ag.DO {P:Program} {G:Gl} {f:FuncId} (hf:∃ fn,P.funcs[f]? =some fn∧(fn.name== "runtime.NumGoroutine")=false∧fn.body.isNone=false)
 (hc:∀ (b:Nat) (es:Array MapEntry) (clock:Nat) (w:World),w.heap[b]? =some (.map es clock)→Calls P f #[.map (some b)] w fun e w'=>e= .returned (.map (some w.heap.size))∧w'=w.alloc (.map es clock))
 (id:Nat) (H:List az) (kd:Option IntKind) (es:List (SV×SV)) (hH:H[id]? =some (.map kd es)):ag P G f [.map id] H (fun r H'=>H'=H++[.map kd es]∧r= .map H.length):=by
 refine⟨hf,fun c vs e1 hh hG hv=>?_⟩
 subst e1
 obtain⟨v,us,hv1,hv2,rfl⟩:=aD.bC.1 hv
 rw[aD.dU.1 hv2]
 simp only[aG,hH] at hv1
 obtain⟨_,b,hθ,rfl⟩:=hv1
 obtain⟨b',ents,clk,h1,h2,h3,h4,h5⟩:=hh.eS id _ hH
 rw[hθ] at h1;cases h1
 refine(callsIn_wide (n:=0)).2 ?_
 refine(hc b ents clk c.w h2).mono ?_
 rintro e w' ⟨rfl,rfl⟩
 have hnew:(c.w.alloc (.map ents clk)).heap[c.w.heap.size]? =some (.map ents clk):=heap_alloc_new c.w _
 obtain⟨g1,g2⟩:=Cx.fresh hh (w':=c.w.alloc (.map ents clk)) c.w.heap.size (Nat.le_refl _) 0 (some (c.w.heap.size,0)) (.inr rfl) (.map kd es) (fun b hb=>Go.RowKit.Below.heap_alloc _ _ b hb) (by simp) rfl rfl rfl (fun hg=>⟨c.w.heap.size,ents,clk,by simp,hnew,cC.grow hg _ _ h3,h4,h5⟩)
 refine⟨.map (some c.w.heap.size),.map c.H.length,_,rfl,rfl,⟨rfl,rfl⟩,g2,?_,g1⟩
 simp only[aG]
 refine⟨rfl,?_⟩
 simp
def HN (C0:Cx):Prop:=C0.H=[]∧∃ ev,C0.w.cell? ⟨0,0,none⟩=some ev∧(ev= .nilIface∨∃ te pe,ev= .iface te pe)
section
open Go Go.ChangeShapes Go.WideShapes Go.RowKit
theorem own:ownKnob Tryz.prog.godebug=none:=by kernel_rfl
theorem laid:laidOutB Tryz.prog=true:=by kernel_rfl
theorem MR:Tryz.prog.globalNamed "strconv.ErrSyntax" =some 0:=by kernel_rfl
theorem Fa:(Tryz.prog.globals[0]?).map (·.type)=some 103:=by kernel_rfl
theorem vY:Tryz.prog.cellsOf 214=1:=by kernel_rfl
theorem Cq:Tryz.prog.cellsOf 9=1:=by kernel_rfl
theorem star: "*" ++ "errors.errorString" = "*errors.errorString" :=by decide
theorem D7 (u:TypeId) (h:Tryz.prog.typeName? 3 u=some "*errors.errorString"):u=212:=
 typeName_ptr_named (nm:= "errors.errorString") (by rw[star];kernel_rfl) (by kernel_rfl) (by decide) u (by rw[star];exact h)
def GB (W:World):Gl:=⟨[],some (yd W)⟩
theorem CQ (W:World):aw (GB W):=fun p hp=>by cases hp
theorem K5 (W:World):yf (GB W) (yd W):=⟨fun p hp=>(by cases hp),fun C0 h=>(by cases h;exact Grow.refl _)⟩
theorem H4 {W:World} (h:laidMetH Tryz.prog [("math/bits.deBruijn32tab",Rows.laid_math_bits_deBruijn32tab),("math/bits.deBruijn64tab",Rows.laid_math_bits_deBruijn64tab),("internal/strconv.uint64pow10",Rows.laid_internal_strconv_uint64pow10),("strconv.ErrRange",Rows.laid_strconv_ErrRange),("strconv.ErrSyntax",Rows.laid_strconv_ErrSyntax)] W):HN (yd W):=by
 have h2:laidMet Tryz.prog [("strconv.ErrSyntax",Rows.laid_strconv_ErrSyntax)] W:=laidMet.tail (laidMet.tail (laidMet.tail (laidMet.tail h)))
 obtain⟨a0,s0,hv0,-,-,-⟩:=laid_sentinel h2 MR Fa Tryz.underlying103 D7 Tryz.underlying212 Tryz.underlying214 rfl rfl Tryz.underlying9 vY Cq
 exact⟨rfl,_,(by have h0:=World.var?_cell MR hv0 0;show W.cell? _=_;simpa using h0),.inr ⟨_,_,rfl⟩⟩
section
variable {H:Type} {enc:TypeId×Value→H} {W:World} {sp:Nat→Bool}
theorem yX {P:Program} {G:Gl} {f:FuncId} {args:List SV} {vs:List Value} (h:ag P G f args [] (fun r H'=>H'=[]∧r= .bool true)) (hg:yf G (yd W)) (hv:aD (yd W) args vs) {R:World→Prop} (hR:∀ W',Below W.heap.size W W'→R W'):
 Calls P f vs.toArray W fun e W'=>∃ v,e= .returned v∧v= .bool true∧R W':=by
 refine(callsIn_wide (n:=0)).1 ((h.2 (yd W) vs rfl (Hi W) hg hv).mono ?_)
 rintro e w' ⟨v,x,c',rfl,hw,⟨_,rfl⟩,_,hx,hg⟩
 simp only[aG] at hx
 exact⟨v,rfl,hx,hR _ (Grow.below hg hw)⟩
end
def zq:DataW Unit→List Value
 | .agg l=>l.map fun
  | .lit (.int k n)=> .int k n
  |_=> .nilFunc
 |_=>[]
def oF (vs:List Value):Obj→Obj
 | .cells _ t fr=> .cells vs.toArray t fr
 |o=>o
noncomputable def pw (os:Os):World:=
 { World.holding Tryz.prog os ⟨#[],#[],[]⟩ with heap:=(((((((World.holding Tryz.prog os ⟨#[],#[],[]⟩).heap.modify 0 (oF [.iface 212 (.pointer (some ⟨(World.holding Tryz.prog os ⟨#[],#[],[]⟩).heap.size,0,none⟩))])).modify 1 (oF [.iface 212 (.pointer (some ⟨(World.holding Tryz.prog os ⟨#[],#[],[]⟩).heap.size+1,0,none⟩))])).modify 2 (oF (zq Rows.laid_internal_strconv_uint64pow10))).modify 3 (oF (zq Rows.laid_math_bits_deBruijn32tab))).modify 4 (oF (zq Rows.laid_math_bits_deBruijn64tab))).push
  (.cells #[.string ⟨#[105,110,118,97,108,105,100,32,115,121,110,116,97,120]⟩] 214 (0,0))).push (.cells #[.string ⟨#[118,97,108,117,101,32,111,117,116,32,111,102,32,114,97,110,103,101]⟩] 214 (0,0))}
end
end Go.Proofs.YtedejleokilohaaGreatDoor
section
open Go
namespace Go.Proofs
open Go.Shelf
def Tryz.vc:Go.Shelf.Ren:=⟨fun|172=>54|244=>102|245=>103|247=>138|279=>139|280=>140|281=>141|282=>142|287=>158|316=>159|171=>55|205=>160|321=>168|322=>169|243=>104|246=>143|283=>161|284=>162|285=>163|286=>164|129=>133|317=>170|318=>171|319=>172|320=>173|337=>174|338=>175|n=>n,fun|9=>9|3=>3|75=>103|76=>104|4=>4|5=>5|167=>178|37=>179|0=>0|85=>180|2=>2|168=>182|53=>173|175=>196|46=>124|210=>200|127=>211|145=>214|143=>212|21=>21|171=>202|173=>204|212=>216|51=>171|20=>20|213=>217|232=>219|233=>220|80=>119|n=>n,fun|15=>0|16=>1|17=>2|18=>3|19=>4|n=>n⟩
theorem Tryz.rP:Go.Proofs.LaysC.n172 Tryz.prog Tryz.vc:={
 mixed:=by kernel_rfl
 f129:=Tryz.func133.trans (congrArg some (by kernel_rfl))
 f171:=Tryz.func55.trans (congrArg some (by kernel_rfl))
 f172:=Tryz.func54.trans (congrArg some (by kernel_rfl))
 f205:=Tryz.func160.trans (congrArg some (by kernel_rfl))
 f243:=Tryz.func104.trans (congrArg some (by kernel_rfl))
 f244:=Tryz.func102.trans (congrArg some (by kernel_rfl))
 f245:=Tryz.func103.trans (congrArg some (by kernel_rfl))
 f246:=Tryz.func143.trans (congrArg some (by kernel_rfl))
 f247:=Tryz.func138.trans (congrArg some (by kernel_rfl))
 f279:=Tryz.func139.trans (congrArg some (by kernel_rfl))
 f280:=Tryz.func140.trans (congrArg some (by kernel_rfl))
 f281:=Tryz.func141.trans (congrArg some (by kernel_rfl))
 f282:=Tryz.func142.trans (congrArg some (by kernel_rfl))
 f283:=Tryz.func161.trans (congrArg some (by kernel_rfl))
 f284:=Tryz.func162.trans (congrArg some (by kernel_rfl))
 f285:=Tryz.func163.trans (congrArg some (by kernel_rfl))
 f286:=Tryz.func164.trans (congrArg some (by kernel_rfl))
 f287:=Tryz.func158.trans (congrArg some (by kernel_rfl))
 f316:=Tryz.func159.trans (congrArg some (by kernel_rfl))
 f317:=Tryz.func170.trans (congrArg some (by kernel_rfl))
 f318:=Tryz.func171.trans (congrArg some (by kernel_rfl))
 f319:=Tryz.func172.trans (congrArg some (by kernel_rfl))
 f320:=Tryz.func173.trans (congrArg some (by kernel_rfl))
 f321:=Tryz.func168.trans (congrArg some (by kernel_rfl))
 f322:=Tryz.func169.trans (congrArg some (by kernel_rfl))
 f337:=Tryz.func174.trans (congrArg some (by kernel_rfl))
 f338:=Tryz.func175.trans (congrArg some (by kernel_rfl))
 t0:=Tryz.underlying0
 a0:=Tryz.isAgg0
 z0:=Tryz.sizeOf0
 v0:=Tryz.zeroValue0
 t2:=Tryz.underlying2
 a2:=Tryz.isAgg2
 z2:=Tryz.sizeOf2
 v2:=Tryz.zeroValue2
 t3:=Tryz.underlying3
 a3:=Tryz.isAgg3
 z3:=Tryz.sizeOf3
 v3:=Tryz.zeroValue3
 t4:=Tryz.underlying4
 a4:=Tryz.isAgg4
 z4:=Tryz.sizeOf4
 v4:=Tryz.zeroValue4
 t5:=Tryz.underlying5
 a5:=Tryz.isAgg5
 z5:=Tryz.sizeOf5
 v5:=Tryz.zeroValue5
 t9:=Tryz.underlying9
 a9:=Tryz.isAgg9
 z9:=Tryz.sizeOf9
 v9:=Tryz.zeroValue9
 t20:=Tryz.underlying20
 a20:=Tryz.isAgg20
 z20:=Tryz.sizeOf20
 v20:=Tryz.zeroValue20
 t21:=Tryz.underlying21
 a21:=Tryz.isAgg21
 z21:=Tryz.sizeOf21
 v21:=Tryz.zeroValue21
 t37:=Tryz.underlying179
 a37:=Tryz.isAgg179
 z37:=Tryz.sizeOf179
 v37:=Tryz.zeroValue179
 t46:=Tryz.underlying124
 a46:=Tryz.isAgg124
 z46:=Tryz.sizeOf124
 v46:=Tryz.zeroValue124
 t51:=Tryz.underlying171
 a51:=Tryz.isAgg171
 z51:=Tryz.sizeOf171
 v51:=Tryz.zeroValue171
 t53:=Tryz.underlying173
 a53:=Tryz.isAgg173
 z53:=Tryz.sizeOf173
 v53:=Tryz.zeroValue173
 t75:=Tryz.underlying103
 a75:=Tryz.isAgg103
 z75:=Tryz.sizeOf103
 v75:=Tryz.zeroValue103
 t76:=Tryz.underlying104
 a76:=Tryz.isAgg104
 z76:=Tryz.sizeOf104
 v76:=Tryz.zeroValue104
 t85:=Tryz.underlying180
 a85:=Tryz.isAgg180
 z85:=Tryz.sizeOf180
 v85:=Tryz.zeroValue180
 t127:=Tryz.underlying211
 a127:=Tryz.isAgg211
 z127:=Tryz.sizeOf211
 v127:=Tryz.zeroValue211
 t143:=Tryz.underlying212
 a143:=Tryz.isAgg212
 z143:=Tryz.sizeOf212
 v143:=Tryz.zeroValue212
 t145:=Tryz.underlying214
 a145:=Tryz.isAgg214
 z145:=Tryz.sizeOf214
 v145:=Tryz.zeroValue214
 t167:=Tryz.underlying178
 a167:=Tryz.isAgg178
 z167:=Tryz.sizeOf178
 v167:=Tryz.zeroValue178
 t168:=Tryz.underlying182
 a168:=Tryz.isAgg182
 z168:=Tryz.sizeOf182
 v168:=Tryz.zeroValue182
 t171:=Tryz.underlying202
 a171:=Tryz.isAgg202
 z171:=Tryz.sizeOf202
 v171:=Tryz.zeroValue202
 t173:=Tryz.underlying204
 a173:=Tryz.isAgg204
 z173:=Tryz.sizeOf204
 v173:=Tryz.zeroValue204
 t175:=Tryz.underlying196
 a175:=Tryz.isAgg196
 z175:=Tryz.sizeOf196
 v175:=Tryz.zeroValue196
 t210:=Tryz.underlying200
 a210:=Tryz.isAgg200
 z210:=Tryz.sizeOf200
 v210:=Tryz.zeroValue200
 t212:=Tryz.underlying216
 a212:=Tryz.isAgg216
 z212:=Tryz.sizeOf216
 v212:=Tryz.zeroValue216
 t213:=Tryz.underlying217
 a213:=Tryz.isAgg217
 z213:=Tryz.sizeOf217
 t232:=Tryz.underlying219
 a232:=Tryz.isAgg219
 z232:=Tryz.sizeOf219
 v232:=Tryz.zeroValue219
 t233:=Tryz.underlying220
 a233:=Tryz.isAgg220
 z233:=Tryz.sizeOf220
 v233:=Tryz.zeroValue220
 g15:=by kernel_rfl
 g16:=by kernel_rfl
 g17:=by kernel_rfl
 g18:=by kernel_rfl
 g19:=by kernel_rfl
 t80:=Tryz.underlying119
 a80:=Tryz.isAgg119
 z80:=Tryz.sizeOf119
 v80:=Tryz.zeroValue119
 i0:=by kernel_rfl
 i2:=by kernel_rfl
 i3:=by kernel_rfl
 i4:=by kernel_rfl
 i5:=by kernel_rfl
 i9:=by kernel_rfl
 i20:=by kernel_rfl
 i21:=by kernel_rfl
 i37:=by kernel_rfl
 i46:=by kernel_rfl
 i51:=by kernel_rfl
 i53:=by kernel_rfl
 i75:=by kernel_rfl
 i76:=by kernel_rfl
 i80:=by kernel_rfl
 i85:=by kernel_rfl
 i127:=by kernel_rfl
 i143:=by kernel_rfl
 i145:=by kernel_rfl
 i167:=by kernel_rfl
 i168:=by kernel_rfl
 i171:=by kernel_rfl
 i173:=by kernel_rfl
 i175:=by kernel_rfl
 i210:=by kernel_rfl
 i212:=by kernel_rfl
 i232:=by kernel_rfl
 i233:=by kernel_rfl
 m15:=by kernel_rfl
 m16:=by kernel_rfl
 m17:=by kernel_rfl
 m18:=by kernel_rfl
 m19:=by kernel_rfl
 c0:=by kernel_rfl
 c2:=by kernel_rfl
 c3:=by kernel_rfl
 c4:=by kernel_rfl
 c5:=by kernel_rfl
 c9:=by kernel_rfl
 c20:=by kernel_rfl
 c21:=by kernel_rfl
 c37:=by kernel_rfl
 c46:=by kernel_rfl
 c51:=by kernel_rfl
 c53:=by kernel_rfl
 c75:=by kernel_rfl
 c76:=by kernel_rfl
 c80:=by kernel_rfl
 c85:=by kernel_rfl
 c127:=by kernel_rfl
 c143:=by kernel_rfl
 c145:=by kernel_rfl
 c167:=by kernel_rfl
 c168:=by kernel_rfl
 c171:=by kernel_rfl
 c173:=by kernel_rfl
 c175:=by kernel_rfl
 c210:=by kernel_rfl
 c212:=by kernel_rfl
 c213:=by kernel_rfl
 c232:=by kernel_rfl
 c233:=by kernel_rfl}
open Go.RowKit in
def Tryz.yY:Go.Shelf.Ren:=⟨fun|5=>37|7=>86|n=>n,fun|23=>86|25=>9|n=>n,fun|n=>n⟩
theorem Tryz.GV:SlLaysW.n5 Tryz.prog Tryz.yY:={
 mixed:=by kernel_rfl
 f5:=⟨ "maps.Clone[map[string]int,string,int]",by decide,by kernel_rfl⟩
 f7:=Tryz.func86
 t4:=Tryz.underlying4
 a4:=Tryz.isAgg4
 z4:=Tryz.sizeOf4
 v4:=Tryz.zeroValue4
 t20:=Tryz.underlying20
 a20:=Tryz.isAgg20
 z20:=Tryz.sizeOf20
 v20:=Tryz.zeroValue20
 t23:=Tryz.underlying86
 a23:=Tryz.isAgg86
 z23:=Tryz.sizeOf86
 v23:=Tryz.zeroValue86}
theorem Tryz.maps_Clone (b:Nat) (es:Array MapEntry) (clock:Nat) (w:World) (hb:w.heap[b]? =some (.map es clock)):
 Calls Tryz.prog 37 #[.map (some b)] w fun e w'=>e= .returned (.map (some w.heap.size))∧w'=w.alloc (.map es clock):=AnyW.maps_Clone Tryz.GV b es clock w hb
end Go.Proofs
end
namespace Go.Proofs.YtedejleokilohaaGreatDoor
open Go
end Go.Proofs.YtedejleokilohaaGreatDoor
section
open Go
namespace Go.Proofs
open Go.Shelf
def Tryz.vd:Go.Shelf.Ren:=⟨fun|171=>55|243=>104|246=>143|283=>161|284=>162|285=>163|286=>164|129=>133|317=>170|318=>171|319=>172|320=>173|337=>174|338=>175|n=>n,fun|3=>3|9=>9|2=>2|4=>4|171=>202|0=>0|53=>173|37=>179|5=>5|173=>204|212=>216|51=>171|20=>20|213=>217|46=>124|232=>219|233=>220|n=>n,fun|17=>2|18=>3|19=>4|n=>n⟩
theorem Tryz.Dn:Go.Proofs.LaysM.n171 Tryz.prog Tryz.vd:={
 mixed:=by kernel_rfl
 f129:=Tryz.func133.trans (congrArg some (by kernel_rfl))
 f171:=Tryz.func55.trans (congrArg some (by kernel_rfl))
 f243:=Tryz.func104.trans (congrArg some (by kernel_rfl))
 f246:=Tryz.func143.trans (congrArg some (by kernel_rfl))
 f283:=Tryz.func161.trans (congrArg some (by kernel_rfl))
 f284:=Tryz.func162.trans (congrArg some (by kernel_rfl))
 f285:=Tryz.func163.trans (congrArg some (by kernel_rfl))
 f286:=Tryz.func164.trans (congrArg some (by kernel_rfl))
 f317:=Tryz.func170.trans (congrArg some (by kernel_rfl))
 f318:=Tryz.func171.trans (congrArg some (by kernel_rfl))
 f319:=Tryz.func172.trans (congrArg some (by kernel_rfl))
 f320:=Tryz.func173.trans (congrArg some (by kernel_rfl))
 f337:=Tryz.func174.trans (congrArg some (by kernel_rfl))
 f338:=Tryz.func175.trans (congrArg some (by kernel_rfl))
 t0:=Tryz.underlying0
 a0:=Tryz.isAgg0
 z0:=Tryz.sizeOf0
 v0:=Tryz.zeroValue0
 t2:=Tryz.underlying2
 a2:=Tryz.isAgg2
 z2:=Tryz.sizeOf2
 v2:=Tryz.zeroValue2
 t3:=Tryz.underlying3
 a3:=Tryz.isAgg3
 z3:=Tryz.sizeOf3
 v3:=Tryz.zeroValue3
 t4:=Tryz.underlying4
 a4:=Tryz.isAgg4
 z4:=Tryz.sizeOf4
 v4:=Tryz.zeroValue4
 t5:=Tryz.underlying5
 a5:=Tryz.isAgg5
 z5:=Tryz.sizeOf5
 v5:=Tryz.zeroValue5
 t9:=Tryz.underlying9
 a9:=Tryz.isAgg9
 z9:=Tryz.sizeOf9
 v9:=Tryz.zeroValue9
 t20:=Tryz.underlying20
 a20:=Tryz.isAgg20
 z20:=Tryz.sizeOf20
 v20:=Tryz.zeroValue20
 t37:=Tryz.underlying179
 a37:=Tryz.isAgg179
 z37:=Tryz.sizeOf179
 v37:=Tryz.zeroValue179
 t46:=Tryz.underlying124
 a46:=Tryz.isAgg124
 z46:=Tryz.sizeOf124
 v46:=Tryz.zeroValue124
 t51:=Tryz.underlying171
 a51:=Tryz.isAgg171
 z51:=Tryz.sizeOf171
 v51:=Tryz.zeroValue171
 t53:=Tryz.underlying173
 a53:=Tryz.isAgg173
 z53:=Tryz.sizeOf173
 v53:=Tryz.zeroValue173
 t171:=Tryz.underlying202
 a171:=Tryz.isAgg202
 z171:=Tryz.sizeOf202
 v171:=Tryz.zeroValue202
 t173:=Tryz.underlying204
 a173:=Tryz.isAgg204
 z173:=Tryz.sizeOf204
 v173:=Tryz.zeroValue204
 t212:=Tryz.underlying216
 a212:=Tryz.isAgg216
 z212:=Tryz.sizeOf216
 v212:=Tryz.zeroValue216
 t213:=Tryz.underlying217
 a213:=Tryz.isAgg217
 z213:=Tryz.sizeOf217
 t232:=Tryz.underlying219
 a232:=Tryz.isAgg219
 z232:=Tryz.sizeOf219
 v232:=Tryz.zeroValue219
 t233:=Tryz.underlying220
 a233:=Tryz.isAgg220
 z233:=Tryz.sizeOf220
 v233:=Tryz.zeroValue220
 g17:=by kernel_rfl
 g18:=by kernel_rfl
 g19:=by kernel_rfl
 i0:=by kernel_rfl
 i2:=by kernel_rfl
 i3:=by kernel_rfl
 i4:=by kernel_rfl
 i5:=by kernel_rfl
 i9:=by kernel_rfl
 i20:=by kernel_rfl
 i37:=by kernel_rfl
 i46:=by kernel_rfl
 i51:=by kernel_rfl
 i53:=by kernel_rfl
 i171:=by kernel_rfl
 i173:=by kernel_rfl
 i212:=by kernel_rfl
 i232:=by kernel_rfl
 i233:=by kernel_rfl
 m17:=by kernel_rfl
 m18:=by kernel_rfl
 m19:=by kernel_rfl}
open Go.RowKit Go.Sort Go.Lib in
theorem Tryz.strconv_Itoa (n:Int) (h0: -9223372036854775808≤n) (h1:n≤9223372036854775807) (w:World) (htab:Lib.TabIs Tryz.prog w "internal/strconv.uint64pow10" .u64 Lib.pow10Tab):
 Calls Tryz.prog 55 #[.int .i64 n] w fun e w'=>e= .returned (.string ⟨(Lib.itoa n).toArray⟩)∧∃ k os,w'=grow (w.drewN k) os:=Any.strconv_Itoa Tryz.Dn n h0 h1 w htab
open Go.RowKit Go.Sort Go.Lib in
theorem Tryz.strconv_Atoi_ok (s:ByteArray) (hmax:s.size≤9223372036854775806) (v:Int) (h:Lib.atoiAll s.data.toList= .ok v) (w:World):
 Calls Tryz.prog 54 #[.string s] w fun e w'=>e= .returned (.tuple #[.int .i64 v,.nilIface])∧(w'=w∨∃ t,w'=Lib.bytesWorld w 5 t):=Any.strconv_Atoi_ok Tryz.rP s hmax v h w
open Go.RowKit Go.Sort Go.Lib in
theorem Tryz.pH (s:ByteArray) (hlim:s.size≤281474976710656) (h:Lib.atoiAll s.data.toList=Lib.atoiAll []) (ev:Value) (w:World) (hv:w.cell? ⟨0,0,none⟩=some ev) (hev:ev= .nilIface∨∃ te pe,ev= .iface te pe):
 Calls Tryz.prog 54 #[.string s] w fun e w'=>∃ N,e= .returned (.tuple #[.int .i64 0,.iface 182 (.pointer (some ⟨N,0,none⟩))])∧w.heap.size≤N∧w'.heap[N]? =some (.cells #[.string ⟨#[65,116,111,105]⟩,.string s,ev] 200 (0,0))∧Below w.heap.size w w':=Any.strconv_Atoi_syntax Tryz.rP s hlim h ev w hv hev
open Go.RowKit Go.Sort Go.Lib in
theorem Tryz.strconv_Atoi_range (s:ByteArray) (hlim:s.size≤281474976710656) (h:Lib.atoiAll s.data.toList= .range) (ev:Value) (w:World) (hv:w.cell? ⟨1,0,none⟩=some ev) (hev:ev= .nilIface∨∃ te pe,ev= .iface te pe):
 Calls Tryz.prog 54 #[.string s] w fun e w'=>∃ N,e= .returned (.tuple #[.int .i64 (Lib.atoiSat s.data.toList),.iface 182 (.pointer (some ⟨N,0,none⟩))])∧w.heap.size≤N∧w'.heap[N]? =some (.cells #[.string ⟨#[65,116,111,105]⟩,.string s,ev] 200 (0,0))∧Below w.heap.size w w':=Any.strconv_Atoi_range Tryz.rP s hlim h ev w hv hev
end Go.Proofs
end
namespace Go.Proofs.YtedejleokilohaaGreatDoor
open Go
structure gZ (C0:Cx):Prop where
 h:C0.H=[]
 es:∃ ev,C0.w.cell? ⟨0,0,none⟩=some ev∧(ev= .nilIface∨∃ te pe,ev= .iface te pe)
 er:∃ ev,C0.w.cell? ⟨1,0,none⟩=some ev∧(ev= .nilIface∨∃ te pe,ev= .iface te pe)
 Nf:Lib.TabIs Tryz.prog C0.w "internal/strconv.uint64pow10" .u64 Lib.pow10Tab
theorem xQ {C0 c:Cx} (h0:C0.H=[]) (hg:Grow C0 c) {k:Nat} {v:Value} (h:C0.w.cell? ⟨k,0,none⟩=some v):c.w.cell? ⟨k,0,none⟩=some v:=by
 have hlt:k<C0.w.heap.size:=Lib.lt_of_cell h
 have hold:=hg.Bo k hlt (fun⟨id,o,⟨B,hB,_⟩,_⟩=>by rw[h0] at hB;cases hB)
 rw[← h]
 unfold World.cell?
 rw[hold]
theorem FP {C0 c:Cx} (h0:C0.H=[]) (hg:Grow C0 c) {n:String} {k:IntKind} {zs:List Int} (h:Lib.TabIs Tryz.prog C0.w n k zs):Lib.TabIs Tryz.prog c.w n k zs:=by
 unfold Lib.TabIs World.var? at h ⊢
 cases hg2:Tryz.prog.globalNamed n with
 |none=>rw[hg2] at h;cases h
 |some g=>
  rw[hg2] at h
  simp only[Option.bind_some] at h ⊢
  split at h
  ·rename_i cs T fr hc
   have hlt:g<C0.w.heap.size:=(Array.getElem?_eq_some_iff.1 hc).1
   have hold:=hg.Bo g hlt (fun⟨id,o,⟨B,hB,_⟩,_⟩=>by rw[h0] at hB;cases hB)
   rw[hold,hc]
   exact h
  ·cases h
theorem ag.xB {P:Program} {G:Gl} {f:FuncId} {args:List SV} {H:List az} {R:SV→Prop} (hf:∃ fn,P.funcs[f]? =some fn∧(fn.name== "runtime.NumGoroutine")=false∧fn.body.isNone=false)
 (hc:∀ (c:Cx) vs,yf G c→aD c args vs→Calls P f vs.toArray c.w fun e w'=>∃ v x,e= .returned v∧(∀ c,aG c x v)∧R x∧Go.RowKit.Below c.w.heap.size c.w w'):
 ag P G f args H (fun r H'=>H'=H∧R r):=by
 refine⟨hf,fun c vs e1 hh hG hv=>?_⟩
 subst e1
 refine(callsIn_wide (n:=0)).2 ?_
 refine(hc c vs hG hv).mono ?_
 rintro e w' ⟨v,x,rfl,hx,hr,hb⟩
 obtain⟨g1,g2⟩:=Cx.world hh (w':=w') (fun b h=>hb.block b h) hb.size hb.os hb.tape hb.output
 exact⟨v,x,{ c with w:=w'},rfl,rfl,⟨rfl,hr⟩,g2,hx _,g1⟩
theorem nv:∀ (k u:Nat),u<10 ^ (k+1)→Lib.nDigits u≤k+1
 |0,u,h=>by rw[Lib.nDigits_small (by simpa using h)];exact Nat.le_refl _
 |k+1,u,h=>by
  by_cases hu:u<10
  ·rw[Lib.nDigits_small hu];omega
  ·rw[Lib.nDigits_big hu]
   have:=nv k (u / 10) (by rw[Nat.pow_succ] at h;omega)
   omega
theorem ou (n:Int) (h0: -9223372036854775808≤n) (h1:n≤9223372036854775807):(Lib.itoa n).length≤20:=by
 unfold Lib.itoa
 split
 ·rw[List.length_cons,Lib.decDigits_length]
  have:=nv 18 n.natAbs (by omega)
  omega
 ·rw[Lib.decDigits_length]
  have:=nv 18 n.toNat (by omega)
  omega
theorem zX (G:Gl) (C0:Cx) (hb:G.base=some C0) (hl:gZ C0) (n:Int) (h0: -9223372036854775808≤n) (h1:n≤9223372036854775807) (H:List az):
 ag Tryz.prog G 55 [.int .i64 n] H (fun r H'=>H'=H∧r= .str (Lib.itoa n)):=by
 refine ag.xB ⟨_,Tryz.func55,by decide,rfl⟩ fun c vs hg hv=>?_
 obtain⟨v,us,hv1,hv2,rfl⟩:=aD.bC.1 hv
 rw[aD.dU.1 hv2]
 simp only[aG] at hv1
 obtain⟨rfl,_⟩:=hv1
 refine(Tryz.strconv_Itoa n h0 h1 c.w (FP hl.h (hg.2 C0 hb) hl.Nf)).mono ?_
 rintro e w' ⟨rfl,k,os,rfl⟩
 refine⟨_,.str (Lib.itoa n),rfl,fun c=>?_,rfl,Go.Lib.below_grow _ _ (Nat.le_refl _) k os⟩
 simp only[aG]
 exact⟨trivial,by have:=ou n h0 h1;unfold maxLen;omega⟩
def ic (s:aI):Int×Bool:=match Lib.atoiAll s with
 | .ok v=>(v,true)
 | .range=>(Lib.atoiSat s,false)
 |_=>(0,false)
theorem zH (G:Gl) (C0:Cx) (hb:G.base=some C0) (hl:gZ C0) (s:aI) (hs:s.length<4294967296) (H:List az):
 ag Tryz.prog G 54 [.str s] H (fun r H'=>H'=H∧r= .tuple [.int .i64 (ic s).1,.gW (ic s).2]):=by
 refine ag.xB ⟨_,Tryz.func54,by decide,rfl⟩ fun c vs hg hv=>?_
 obtain⟨v,us,hv1,hv2,rfl⟩:=aD.bC.1 hv
 rw[aD.dU.1 hv2]
 simp only[aG] at hv1
 obtain⟨rfl,_⟩:=hv1
 have hsz:(⟨⟨s⟩⟩:ByteArray).size=s.length:=rfl
 have tell:∀ (c:Cx) (n:Int) (z:Bool) (v:Value),(IntKind.i64.min≤n∧n≤IntKind.i64.max)→aG c (.gW z) v→v.oneCell'=true→aG c (.tuple [.int .i64 n,.gW z]) (.tuple #[.int .i64 n,v]):=fun c n z v hn hz _=>by
  simp only[aG]
  exact⟨[.int .i64 n,v],aD.bT (by simp only[aG];exact⟨trivial,hn⟩) (aD.bT hz aD.cw),rfl⟩
 rcases ha:Lib.atoiAll s with n|_|_
 ·obtain⟨vb0,vb1⟩:=Lib.atoiAll_bounds ha
  refine(Tryz.strconv_Atoi_ok ⟨⟨s⟩⟩ (by rw[hsz];omega) n ha c.w).mono ?_
  rintro e w' ⟨rfl,hw⟩
  refine⟨_,.tuple [.int .i64 n,.gW true],rfl,fun c=>tell c n true _ ⟨vb0,vb1⟩ (by simp only[aG]) rfl,by simp only[ic,ha],?_⟩
  rcases hw with rfl|⟨t,rfl⟩
  ·exact Go.RowKit.Below.refl _ _
  ·exact Lib.bytesWorld_below _ _ _
 ·obtain⟨ev,h1,h2⟩:=hl.es
  refine(Tryz.pH ⟨⟨s⟩⟩ (by rw[hsz];omega) ha ev c.w (xQ hl.h (hg.2 C0 hb) h1) h2).mono ?_
  rintro e w' ⟨N,rfl,_,_,hbw⟩
  exact⟨_,.tuple [.int .i64 0,.gW false],rfl,fun c=>tell c 0 false _ (by decide) (by simp only[aG];exact⟨_,_,rfl⟩) rfl,by simp only[ic,ha],hbw⟩
 ·obtain⟨ev,h1,h2⟩:=hl.er
  obtain⟨sb0,sb1⟩:=Lib.atoiSat_bounds s
  refine(Tryz.strconv_Atoi_range ⟨⟨s⟩⟩ (by rw[hsz];omega) ha ev c.w (xQ hl.h (hg.2 C0 hb) h1) h2).mono ?_
  rintro e w' ⟨N,rfl,_,_,hbw⟩
  exact⟨_,.tuple [.int .i64 (Lib.atoiSat s),.gW false],rfl,fun c=>tell c _ false _ ⟨sb0,sb1⟩ (by simp only[aG];exact⟨_,_,rfl⟩) rfl,by simp only[ic,ha],hbw⟩
section
open Go Go.ChangeShapes Go.WideShapes Go.RowKit
theorem MQ:Tryz.prog.globalNamed "strconv.ErrRange" =some 1:=by kernel_rfl
theorem E9:(Tryz.prog.globals[1]?).map (·.type)=some 103:=by kernel_rfl
theorem M5:Tryz.prog.globalNamed "internal/strconv.uint64pow10" =some 2:=by kernel_rfl
theorem Fc:(Tryz.prog.globals[2]?).map (·.type)=some 216:=by kernel_rfl
theorem Co:Tryz.prog.cellsOf 173=1:=by kernel_rfl
theorem Cp:Tryz.prog.cellsOf 216=20:=by kernel_rfl
theorem KD:(Rows.laid_internal_strconv_uint64pow10:DataW Unit)=Lib.tabData .u64 Lib.pow10Tab:=by kernel_rfl
theorem Ik {W:World} (h:laidMetH Tryz.prog [("math/bits.deBruijn32tab",Rows.laid_math_bits_deBruijn32tab),("math/bits.deBruijn64tab",Rows.laid_math_bits_deBruijn64tab),("internal/strconv.uint64pow10",Rows.laid_internal_strconv_uint64pow10),("strconv.ErrRange",Rows.laid_strconv_ErrRange),("strconv.ErrSyntax",Rows.laid_strconv_ErrSyntax)] W):gZ (yd W):=by
 have h3:laidMet Tryz.prog [("internal/strconv.uint64pow10",Rows.laid_internal_strconv_uint64pow10),("strconv.ErrRange",Rows.laid_strconv_ErrRange),("strconv.ErrSyntax",Rows.laid_strconv_ErrSyntax)] W:=laidMet.tail (laidMet.tail h)
 have h4:laidMet Tryz.prog [("strconv.ErrRange",Rows.laid_strconv_ErrRange),("strconv.ErrSyntax",Rows.laid_strconv_ErrSyntax)] W:=laidMet.tail h3
 refine⟨rfl,(H4 h).2,?_,?_⟩
 ·obtain⟨a0,s0,hv0,-,-,-⟩:=laid_sentinel h4 MQ E9 Tryz.underlying103 D7 Tryz.underlying212 Tryz.underlying214 rfl rfl Tryz.underlying9 vY Cq
  exact⟨_,(by have h0:=World.var?_cell MQ hv0 0;show W.cell? _=_;simpa using h0),.inr ⟨_,_,rfl⟩⟩
 ·rw[KD] at h3
  exact Lib.tabIs_of_head M5 Fc Tryz.underlying216 Tryz.underlying173 Co Cp h3
theorem GC (W:World):eJ (GB W) 0:=fun C1 e=>by cases e;exact Nat.le_refl _
end
section
open Go Go.ChangeShapes Go.WideShapes Go.RowKit
section
variable {H:Type} {enc:TypeId×Value→H} {W:World} {sp:Nat→Bool}
theorem DY (n:Nat):Rd enc Tryz.prog W sp n 23 (fun l:List Bd=>[.list 9 (ao l)]) (fun l=>1+aW l):=by
 have h:=kf (enc:=enc) (P:=Tryz.prog) (W:=W) (sp:=sp) (t:=23) (e:=53) true (f:=Bd.cells) (wt:=Bd.wt) (n:=9) (N:=n) (by kernel_rfl) (by kernel_rfl) (by kernel_rfl) (by omega) (.inl rfl) (fun m _=>(FI m).2.1)
 intro cs x hx
 obtain⟨a,h1,h2,h3⟩:=h cs x hx
 have e:(a.map fun x=>bx true x.cells)=ao a:=by rw[cr];rfl
 have h1:Good W [SV.list 9 (a.map fun x=>bx true x.cells)] cs:=h1
 rw[e] at h1
 exact⟨a,h1,h2,by show 1+aW a≤_;rw[tq];exact h3⟩
end
end
def idxFrom:Nat→List (List UInt8)→List UInt8→Int
 |_,[],_=> -1
 |i,x::r,v=>if v=x then i else idxFrom (i+1) r v
theorem yS (G:Gl) (l:List (List UInt8)) (v:List UInt8) (H:List az) (hl:l.length<4611686018427387904):
 ag Tryz.prog G 135 [.list 1 (l.map .str),.str v] H (fun r H'=>H'=H∧r= .int .i64 (idxFrom 0 l v)):=by
 refine ag.aK TB [] aF _ Tryz.func135 rfl (by decide) Tryz.ntmps135 (by simp) rfl (by simp only[au,Nat.reduceAdd];rfl) fun C R' hR hC hcl hB=>?_;have X:=aO;have hC':=congrArg List.length hC
 (refine bP ?_;with_reducible repeat' first|exact trivial|(apply af.mk<;>intro hb)|apply ax.mk)
 ·refine aC (fun i:Nat=>[(0,.list 1 (l.map .str)),(1,.str v),(4,.int .i64 0),(7,.int .i64 l.length),(8,.int .i64 i)]) (fun _=>H) (fun i=>l.length - i) (fun i=>i≤l.length∧idxFrom i (l.drop i) v=idxFrom 0 l v) 0 (by simp) (Wk.sub ?_) ?_
  ·simp (decide:=true) [bR,look]
  intro K i hi hK
  (refine bP ?_;with_reducible repeat' first|exact trivial|(apply af.mk<;>intro hb)|apply ax.mk)
  ·have hi':i<l.length:=by omega
   rw[List.drop_eq_getElem_cons hi',idxFrom,if_pos hb] at hi
   exact Fin.out hR ⟨rfl,by rw[← hi.2];rfl⟩
  ·have hi':i<l.length:=by omega
   rw[List.drop_eq_getElem_cons hi',idxFrom,if_neg hb] at hi
   exact hK _ _ (i+1) (by omega) ⟨hi',hi.2⟩ (Wk.sub (by simp[bR,look]))
  ·rw[List.drop_of_length_le (by omega),idxFrom] at hi
   exact Fin.out hR ⟨rfl,by rw[← hi.2];rfl⟩
theorem rD:∀ (l:List aI) (v:aI) (i:Nat),(idxFrom i l v= -1∧v∉l)∨((i:Int)≤idxFrom i l v∧v∈l)
 |[],v,i=> .inl ⟨rfl,by simp⟩
 |x::r,v,i=>by
  rw[idxFrom]
  split
  ·rename_i h;exact .inr ⟨Int.le_refl _,by simp[h]⟩
  ·rename_i h
   rcases rD r v (i+1) with h1|h1
   ·exact .inl ⟨h1.1,by simp[h,h1.2]⟩
   ·exact .inr ⟨by omega,by simp[h1.2]⟩
theorem gp (G:Gl) (l:List aI) (v:aI) (H:List az) (hl:l.length<4611686018427387904):
 ag Tryz.prog G 95 [.list 1 (l.map .str),.str v] H (fun r H'=>H'=H∧r= .bool (decide (v∈l))):=by
 refine ag.aK TB [] aF _ Tryz.func95 rfl (by decide) Tryz.ntmps95 (by simp) rfl (by simp only[au,Nat.reduceAdd];rfl) fun C R' hR hC hcl hB=>?_;have X:=aO;have hC':=congrArg List.length hC
 (refine bP ?_;with_reducible repeat' first|exact trivial|(apply af.mk<;>intro hb)|apply ax.mk)
 refine fg (xs:=[.list 1 (l.map .str),.str v]) (by exact cv) rfl (yS G l v H hl) ?_
 rintro r H' ⟨rfl,rfl⟩
 (refine bP ?_;with_reducible repeat' first|exact trivial|(apply af.mk<;>intro hb)|apply ax.mk)
 refine Fin.out hR ⟨rfl,?_⟩
 rcases rD l v 0 with h|h
 ·simp[h.1,h.2,bA]
 ·simp only[h.2,decide_true,SV.bool.injEq,decide_eq_true_eq,bA];omega
theorem gC (G:Gl) (l:List aI) (v:aI) (H:List az) (hl:l.length<4611686018427387904):
 ag Tryz.prog G 66 [.list 1 (l.map .str),.str v] H (fun r H'=>H'=H∧r= .bool (decide (v∈l))):=by
 refine ag.aK TB [] aF _ Tryz.func66 rfl (by decide) Tryz.ntmps66 (by simp) rfl (by simp only[au,Nat.reduceAdd];rfl) fun C R' hR hC hcl hB=>?_;have X:=aO;have hC':=congrArg List.length hC
 (refine bP ?_;with_reducible repeat' first|exact trivial|(apply af.mk<;>intro hb)|apply ax.mk)
 refine aC (fun i:Nat=>[(0,.list 1 (l.map .str)),(1,.str v),(5,.int .i64 i)]) (fun _=>H) (fun i=>l.length - i) (fun i=>i≤l.length∧v∉l.take i) 0 (by simp) (Wk.sub (by simp[bR,look])) ?_
 intro K i hi hK
 (refine bP ?_;with_reducible repeat' first|exact trivial|(apply af.mk<;>intro hb)|apply ax.mk)
 ·have hi':i<l.length:=by omega
  exact Fin.out hR ⟨rfl,by rw[decide_eq_true (by rw[← hb];exact List.getElem_mem hi')];rfl⟩
 ·have hi':i<l.length:=by omega
  exact hK _ _ (i+1) (by omega) ⟨hi',by rw[List.take_succ_eq_append_getElem hi',List.mem_append];simp only[hi.2,List.mem_singleton,false_or];exact fun h=>hb h.symm⟩ (Wk.sub (by simp[bR,look]))
 ·have:l.take i=l:=List.take_of_length_le (by omega)
  exact Fin.out hR ⟨rfl,by rw[decide_eq_false (by rw[← this];exact hi.2)];rfl⟩
def o5 (op:Int):Int:=if 1≤op∧op≤8 then 2 else if op=10 then 1 else if op=9∨op=11 then 0 else -1
theorem zF (G:Gl) (hG:aw G) (op:Int) (H:List az):ag Tryz.prog G 113 [.int .i64 op] H (fun r H'=>H'=H∧r= .int .i64 (o5 op)):=by
 refine ag.aK TB [] aF _ Tryz.func113 rfl (by decide) Tryz.ntmps113 (by simp) rfl (by simp only[au,Nat.reduceAdd];rfl) fun C R' hR hC hcl hB=>?_;have X:=aO;have hC':=congrArg List.length hC
 (refine bP ?_;with_reducible repeat' first|exact trivial|(apply af.mk<;>intro hb)|apply ax.mk)
 all_goals
  refine Fin.out hR ⟨rfl,?_⟩
  simp only[bA,o5]
  repeat' (first|rfl|split|(exfalso;omega))
theorem oE (G:Gl) (hG:aw G) (e:Ex) (H:List az) (hw:e.wt<4294967296):ag Tryz.prog G 114 [e.sv] H (fun r H'=>H'=H∧r= .list 8 (aj e.parts)):=by
 obtain⟨kd,nm,nn,op,names,ad,binds,alts⟩:=e
 have hlen:=Ex.cY kd nm nn op names ad binds alts
 refine ag.aK TB [3] aF _ Tryz.func114 rfl (by decide) Tryz.ntmps114 (by simp) rfl (by simp only[au,Nat.reduceAdd];rfl) fun C R' hR hC hcl hB=>?_;have X:=aO;have hC':=congrArg List.length hC
 have hC':C.H.length=H.length:=by rw[hC]
 (refine bP ?_;with_reducible repeat' first|exact trivial|(apply af.mk<;>intro hb)|apply ax.mk)
 refine aC (fun i:Nat=>[(1,.ptr H.length 0 0 0),(3,.sl (H.length+1) 0 0 (ad.length+i)),(4,.int .i64 i)]) (fun i=>H++[.cells 0 8 [.agg [.int .i64 kd,.str nm,.int .i64 nn,.int .i64 op,.list 1 (names.map .str),.list 8 (aj ad),.list 9 (ao binds),.list 12 (aA alts)]],.cells 0 8 (aj ad++(binds.take i).map fun b=> .agg b.e.cells)])
  (fun i=>binds.length - i) (fun i=>i≤binds.length) 0 (Nat.zero_le _) ?_ ?_
 ·simp only[List.take_zero,List.map_nil,List.append_nil,Nat.add_zero]
  exact bB (n0:=H.length) [(H.length,0),(H.length+1,0)] hG hB (by rw[hC]) hcl
 ·intro K i hi hK
  (refine bP ?_;with_reducible repeat' first|exact trivial|(apply af.mk<;>intro hb)|apply ax.mk)
  ·refine hK _ _ (i+1) (by omega) (by omega) ?_
   simp only[List.take_succ_eq_append_getElem (show i<binds.length by omega),List.map_append,List.map_cons,List.map_nil]
   exact bB (n0:=H.length) [(H.length,0),(H.length+1,0)] hG hB (by rw[hC]) hcl
  ·have hi':i=binds.length:=by omega
   subst hi'
   simp only[List.take_length]
   refine aC (fun i:Nat=>[(1,.ptr H.length 0 0 0),(3,.sl (H.length+1) 0 0 (ad.length+binds.length+i)),(5,.int .i64 i)]) (fun i=>H++[.cells 0 8 [.agg [.int .i64 kd,.str nm,.int .i64 nn,.int .i64 op,.list 1 (names.map .str),.list 8 (aj ad),.list 9 (ao binds),.list 12 (aA alts)]],.cells 0 8 (aj ad++((binds.map fun b=> .agg b.e.cells)++(alts.take i).map fun a=> .agg a.body.cells))])
    (fun i=>alts.length - i) (fun i=>i≤alts.length) 0 (Nat.zero_le _) ?_ ?_
   ·simp only[List.take_zero,List.map_nil,List.append_nil,Nat.add_zero]
    exact bB (n0:=H.length) [(H.length,0),(H.length+1,0)] hG hB (by rw[hC]) hcl
   ·intro K2 i hi hK2
    (refine bP ?_;with_reducible repeat' first|exact trivial|(apply af.mk<;>intro hb)|apply ax.mk)
    ·refine hK2 _ _ (i+1) (by omega) (by omega) ?_
     simp only[List.take_succ_eq_append_getElem (show i<alts.length by omega),List.map_append,List.map_cons,List.map_nil]
     exact bB (n0:=H.length) [(H.length,0),(H.length+1,0)] hG hB (by rw[hC]) hcl
    ·have hi':i=alts.length:=by omega
     subst hi'
     have hpe:aj (Ex.mk kd nm nn op names ad binds alts).parts=aj ad++((binds.map fun b=> .agg b.e.cells)++alts.map fun a=> .agg a.body.cells):=by
      simp only[Ex.dn,bQ,List.map_append,List.map_map];rfl
     refine Fin.dx (n0:=H.length) hR (by simp) hC' hcl (bV.sf (by exact dL) (by omega) (by simp) ?_ (eN _ _)) ⟨rfl,rfl⟩
     rw[hpe,List.drop_zero,List.take_length]
     exact List.take_of_length_le (by simp[ct])
def Kz (H:List az):SV→List az→Prop:=fun r H'=>H'=H∧∃ b,r= .bool b
def tl (s:aI) (n:Int) (b:Bool):SV:= .agg [.str s,.int .i64 n,.bool b]
def cT (k:Int) (l:List aI) (binds:List Bd):List aI:=if k=3 then l else if k=5 then binds.map Bd.name else []
mutual
def fX (s:aI):Ex→Nat
 | .mk k nm _ _ l ad binds alts=>if k=1 then (if nm=s then 1 else 0) else if s∈cT k l binds then 0 else oC s ad+oB s binds+lW s (k=6∧nm=s) alts
def oC (s:aI):List Ex→Nat
 |[]=>0
 |e::r=>fX s e+oC s r
def xz (s:aI):Bd→Nat
 | .mk _ e=>fX s e
def oB (s:aI):List Bd→Nat
 |[]=>0
 |b::r=>xz s b+oB s r
def xx (s:aI) (c:Prop) [Decidable c]:Al→Nat
 | .mk _ _ _ l e=>if s∈l∨c then 0 else fX s e
def lW (s:aI) (c:Prop) [Decidable c]:List Al→Nat
 |[]=>0
 |a::r=>xx s c a+lW s c r
end
mutual
def eA (s:aI) (b:Bool):Ex→Bool
 | .mk k nm _ _ l ad binds alts=>if k=1 then (b&&decide (nm=s)) else if s∈cT k l binds then false else mS s (b||decide (k=3)) ad||mR s (b||decide (k=3)) binds||j7 s (b||decide (k=3)) (k=6∧nm=s) alts
def mS (s:aI) (b:Bool):List Ex→Bool
 |[]=>false
 |e::r=>eA s b e||mS s b r
def yV (s:aI) (b:Bool):Bd→Bool
 | .mk _ e=>eA s b e
def mR (s:aI) (b:Bool):List Bd→Bool
 |[]=>false
 |x::r=>yV s b x||mR s b r
def yU (s:aI) (b:Bool) (c:Prop) [Decidable c]:Al→Bool
 | .mk _ _ _ l e=>if s∈l∨c then false else eA s b e
def j7 (s:aI) (b:Bool) (c:Prop) [Decidable c]:List Al→Bool
 |[]=>false
 |a::r=>yU s b c a||j7 s b c r
end
theorem r9 (s:aI) (b:Bd):xz s b=fX s b.e:=by cases b;rw[xz];rfl
theorem r8 (s:aI) (c:Prop) [Decidable c] (a:Al):xx s c a=if s∈a.names∨c then 0 else fX s a.body:=by cases a;rw[xx];rfl
theorem tQ (s:aI) (q:Bool) (b:Bd):yV s q b=eA s q b.e:=by cases b;rw[yV];rfl
theorem tP (s:aI) (q:Bool) (c:Prop) [Decidable c] (a:Al):yU s q c a=if s∈a.names∨c then false else eA s q a.body:=by cases a;rw[yU];rfl
mutual
theorem lX (s:aI):∀ e:Ex,fX s e≤e.wt
 | .mk k nm n o l ad binds alts=>by
  have h1:=vn s ad
  have h2:=vm s binds
  have h3:=Ah s (k=6∧nm=s) alts
  simp only[fX,Ex.wt]
  split
  ·split<;>omega
  ·split<;>omega
theorem vn (s:aI):∀ l:List Ex,oC s l≤bt l
 |[]=>Nat.le_refl _
 |e::r=>by have h1:=lX s e;have h2:=vn s r;simp only[oC,bt];omega
theorem DL (s:aI):∀ b:Bd,xz s b≤b.wt
 | .mk n e=>by have h1:=lX s e;simp only[xz,Bd.wt];omega
theorem vm (s:aI):∀ l:List Bd,oB s l≤aW l
 |[]=>Nat.le_refl _
 |e::r=>by have h1:=DL s e;have h2:=vm s r;simp only[oB,aW];omega
theorem DK (s:aI) (c:Prop) [Decidable c]:∀ b:Al,xx s c b≤b.wt
 | .mk k nm n l e=>by have h1:=lX s e;simp only[xx,Al.wt];split<;>omega
theorem Ah (s:aI) (c:Prop) [Decidable c]:∀ l:List Al,lW s c l≤cp l
 |[]=>Nat.le_refl _
 |e::r=>by have h1:=DK s c e;have h2:=Ah s c r;simp only[lW,cp];omega
end
theorem Al.ku (a:Al):a.names.length≤a.wt:=by cases a;simp only[Al.wt,Al.names];have:=ea ‹_›;omega
theorem pV (a b:List Ex):aj (a++b)=aj a++aj b:=by simp[bQ]
theorem pW (x:Ex):aj [x]=[.agg x.cells]:=by simp[bQ,Ex.sv]
theorem k9 (l:List Ex):List.take l.length (aj l)=aj l:=List.take_of_length_le (by simp[ct])
def ox (s:aI) (c:Prop) [Decidable c] (a:Al):Bool:=!decide (s∈a.names∨c)
def fJ (s:aI) (l:List Ex):Nat:=(l.map (fX s)).sum
def iI (s:aI) (b:Bool) (l:List Ex):Bool:=l.any (eA s b)
theorem Aj (s:aI):∀ l:List Ex,oC s l=fJ s l
 |[]=>rfl
 |e::r=>by simp only[oC,fJ,List.map_cons,List.sum_cons,Aj s r]
theorem Ai (s:aI):∀ l:List Bd,oB s l=fJ s (l.map Bd.e)
 |[]=>rfl
 |e::r=>by simp only[oB,fJ,List.map_cons,List.sum_cons,Ai s r,r9]
theorem Ag (s:aI) (c:Prop) [Decidable c]:∀ l:List Al,lW s c l=fJ s ((l.filter (ox s c)).map Al.body)
 |[]=>rfl
 |e::r=>by
  simp only[lW,r8,Ag s c r,List.filter_cons,ox]
  by_cases h:s∈e.names∨c
  ·simp[h]
  ·simp[h,fJ]
theorem w9 (s:aI) (b:Bool):∀ l:List Ex,mS s b l=iI s b l
 |[]=>rfl
 |e::r=>by simp only[mS,iI,List.any_cons,w9 s b r]
theorem w8 (s:aI) (b:Bool):∀ l:List Bd,mR s b l=iI s b (l.map Bd.e)
 |[]=>rfl
 |e::r=>by simp only[mR,iI,List.map_cons,List.any_cons,w8 s b r,tQ]
theorem wZ (s:aI) (b:Bool) (c:Prop) [Decidable c]:∀ l:List Al,j7 s b c l=iI s b ((l.filter (ox s c)).map Al.body)
 |[]=>rfl
 |e::r=>by
  simp only[j7,tP,wZ s b c r,List.filter_cons,ox]
  by_cases h:s∈e.names∨c
  ·simp[h]
  ·simp[h,iI]
def ux (s:aI) (kd:Int) (nm:aI) (ad:List Ex) (binds:List Bd) (alts:List Al):List Ex:=ad++(binds.map Bd.e++(alts.filter (ox s (kd=6∧nm=s))).map Al.body)
theorem oD (s:aI) (a b:List Ex):fJ s (a++b)=fJ s a+fJ s b:=by simp[fJ]
theorem rM (s:aI) (q:Bool) (a b:List Ex):iI s q (a++b)=(iI s q a||iI s q b):=by simp[iI]
theorem DM (s:aI) {kd:Int} {nm:aI} {nn op:Int} {names:List aI} {ad:List Ex} {binds:List Bd} {alts:List Al} (hk:kd≠1) (ho:s∉cT kd names binds):
 fX s (.mk kd nm nn op names ad binds alts)=fJ s (ux s kd nm ad binds alts):=by
 rw[fX,if_neg hk,if_neg ho,Aj,Ai,Ag,ux,oD,oD,Nat.add_assoc]
theorem yT (s:aI) (b:Bool) {kd:Int} {nm:aI} {nn op:Int} {names:List aI} {ad:List Ex} {binds:List Bd} {alts:List Al} (hk:kd≠1) (ho:s∉cT kd names binds):
 eA s b (.mk kd nm nn op names ad binds alts)=iI s (b||decide (kd=3)) (ux s kd nm ad binds alts):=by
 rw[eA,if_neg hk,if_neg ho,w9,w8,wZ,ux,rM,rM,Bool.or_assoc]
theorem uz {s:aI} {kd:Int} {nm:aI} {nn op:Int} {names:List aI} {ad:List Ex} {binds:List Bd} {alts:List Al} {x:Ex} (h:x∈ux s kd nm ad binds alts):x∈(Ex.mk kd nm nn op names ad binds alts).parts:=by
 rw[Ex.dn]
 simp only[ux,List.mem_append,List.mem_map,List.mem_filter] at h ⊢
 rcases h with h|h|⟨a,h,h2⟩
 ·exact .inl h
 ·exact .inr (.inl h)
 ·exact .inr (.inr ⟨a,h.1,h2⟩)
theorem u9 (s:aI):∀ (m:Nat) (e:Ex),e.wt≤m→eA s true e=decide (0<fX s e)∧(eA s false e=true→0<fX s e)
 |0,e,h=>by have:=e.bz;omega
 |m+1,e,h=>by
  obtain⟨kd,nm,nn,op,names,ad,binds,alts⟩:=e
  by_cases hk:kd=1
  ·subst hk
   rw[fX,eA,eA,if_pos rfl,if_pos rfl,if_pos rfl]
   by_cases hn:nm=s<;>simp[hn]
  ·by_cases ho:s∈cT kd names binds
   ·rw[fX,eA,eA,if_neg hk,if_neg hk,if_neg hk,if_pos ho,if_pos ho,if_pos ho]
    simp
   ·rw[DM s hk ho,yT s _ hk ho,yT s _ hk ho,Bool.true_or,Bool.false_or]
    have hm:∀ x∈ux s kd nm ad binds alts,x.wt≤m:=fun x hx=>by
     have:=Ex.cU (uz (nn:=nn) (op:=op) (names:=names) hx)
     omega
    generalize ux s kd nm ad binds alts=l at hm
    have h1:iI s true l=decide (0<fJ s l):=by
     induction l with
     |nil=>rfl
     |cons x r ih=>
      have h2:=(u9 s m x (hm x (List.mem_cons_self ..))).1
      have h3:=ih (fun y hy=>hm y (List.mem_cons_of_mem _ hy))
      rw[show iI s true (x::r)=(eA s true x||iI s true r) from rfl,h2,h3,show fJ s (x::r)=fX s x+fJ s r from by simp[fJ]]
      by_cases ha:0<fX s x<;>by_cases hb:0<fJ s r<;>simp[ha,hb]<;>omega
    refine⟨h1,fun hi=>?_⟩
    by_cases h3:kd=3
    ·rw[decide_eq_true h3,h1] at hi
     exact of_decide_eq_true hi
    ·rw[decide_eq_false h3] at hi
     clear h1
     induction l with
     |nil=>cases hi
     |cons x r ih=>
      simp only[iI,List.any_cons,Bool.or_eq_true] at hi
      simp only[fJ,List.map_cons,List.sum_cons]
      rcases hi with hi|hi
      ·have:=(u9 s m x (hm x (List.mem_cons_self ..))).2 hi
       omega
      ·have:=ih (fun y hy=>hm y (List.mem_cons_of_mem _ hy)) hi
       simp only[fJ] at this
       omega
theorem En {s:aI} {kd:Int} {nm:aI} {ad:List Ex} {binds:List Bd} {alts:List Al} {i:Nat} (h:i<alts.length):
 ux s kd nm ad binds (alts.take (i+1))=ux s kd nm ad binds (alts.take i)++(if ox s (kd=6∧nm=s) alts[i]=true then [alts[i].body] else []):=by
 rw[List.take_succ_eq_append_getElem h,ux,ux,List.filter_append,List.map_append,List.append_assoc,List.append_assoc]
 congr 3
 simp only[List.filter_cons,List.filter_nil]
 split<;>simp
theorem Al.j8 {kd:Int} {nm:aI} {nn op:Int} {names:List aI} {ad:List Ex} {binds:List Bd} {alts:List Al} {i:Nat} (h:i<alts.length):alts[i].names.length≤(Ex.mk kd nm nn op names ad binds alts).wt:=by
 have h1:=cN (List.getElem_mem h)
 have h2:=Al.ku alts[i]
 simp only[Ex.wt]
 omega
theorem Df (s:aI) (q:Prop) [Decidable q] (x:Ex):(eA s false x||(decide (0<fX s x)&&decide q))=eA s (decide q) x:=by
 obtain⟨h1,h2⟩:=u9 s _ x (Nat.le_refl _)
 by_cases h:q
 ·simp only[h,decide_true,Bool.and_true]
  rw[h1]
  cases hi:eA s false x with
  |false=>rfl
  |true=>simp[h2 hi]
 ·simp[h]
theorem tX (s:aI) (l:List Ex) (i:Nat):fJ s (l.take i)≤fJ s l:=by
 have:fJ s l=fJ s (l.take i)+fJ s (l.drop i):=by rw[← oD,List.take_append_drop]
 omega
theorem tW {s:aI} {l:List Ex} {i:Nat} (h:i<l.length):fJ s (l.take (i+1))=fJ s (l.take i)+fX s l[i]:=by
 rw[List.take_succ_eq_append_getElem h,oD]
 simp[fJ]
theorem A8 {s:aI} {q:Bool} {l:List Ex} {i:Nat} (h:i<l.length):iI s q (l.take (i+1))=(iI s q (l.take i)||eA s q l[i]):=by
 rw[List.take_succ_eq_append_getElem h,rM]
 simp[iI]
theorem nh (G:Gl) (hG:aw G) (l:List aI) (H:List az) (hl:l.length<1099511627776):ag Tryz.prog G 42 [.list 1 (l.map .str)] H (fun r H'=>H'=H++[.cells 0 1 (l.map .str)]∧r= .sl H.length 0 0 l.length):=by
 refine ag.aK TB [2,5] aF _ Tryz.func42 rfl (by decide) Tryz.ntmps42 (by simp) rfl (by simp only[au,Nat.reduceAdd];rfl) fun C R' hR hC hcl hB=>?_;have X:=aO;have hC':=congrArg List.length hC
 (refine bP ?_;with_reducible repeat' first|exact trivial|(apply af.mk<;>intro hb)|apply ax.mk)
 ·obtain rfl:l=[]:=List.length_eq_zero_iff.1 hb
  exact jv [(H.length+1,0)] (.sl H.length 0 0 0) [.cells 0 1 []] hR hC' hcl ⟨rfl,rfl⟩
 ·exact jv [(H.length+1,0)] (.sl H.length 0 0 l.length) [.cells 0 1 (l.map .str)] hR hC' hcl ⟨rfl,rfl⟩
def aR:Ex→List (Ex×List aI)
 | .mk kd nm _ _ names ad binds alts=>ad.map (fun x=>(x,cT kd names binds))++(binds.map (fun b=>(b.e,cT kd names binds))++alts.map (fun a=>(a.body,a.names++if kd=6 then [nm] else [])))
theorem uj {kd:Int} {nm:aI} {nn op:Int} {names:List aI} {ad:List Ex} {binds:List Bd} {alts:List Al} {i:Nat} (h:i<ad.length):(aR (.mk kd nm nn op names ad binds alts))[i]? =some (ad[i],cT kd names binds):=by
 simp only[aR]
 rw[List.getElem?_append_left (by simpa using h),List.getElem?_map,List.getElem?_eq_getElem h];rfl
theorem sC {kd:Int} {nm:aI} {nn op:Int} {names:List aI} {ad:List Ex} {binds:List Bd} {alts:List Al} {i:Nat} (h:i<binds.length):(aR (.mk kd nm nn op names ad binds alts))[ad.length+i]? =some (binds[i].e,cT kd names binds):=by
 simp only[aR]
 rw[List.getElem?_append_right (by simp),List.length_map,Nat.add_sub_cancel_left,List.getElem?_append_left (by simpa using h),List.getElem?_map,List.getElem?_eq_getElem h];rfl
theorem ui {kd:Int} {nm:aI} {nn op:Int} {names:List aI} {ad:List Ex} {binds:List Bd} {alts:List Al} {i:Nat} (h:i<alts.length):(aR (.mk kd nm nn op names ad binds alts))[ad.length+binds.length+i]? =some (alts[i].body,alts[i].names++if kd=6 then [nm] else []):=by
 simp only[aR]
 rw[List.getElem?_append_right (by simp;omega),List.length_map,show ad.length+binds.length+i - ad.length=binds.length+i by omega,List.getElem?_append_right (by simp),List.length_map,Nat.add_sub_cancel_left,List.getElem?_map,List.getElem?_eq_getElem h];rfl
theorem BA (G:Gl) (hG:aw G) (e:Ex) (hw:e.wt<549755813888) (fv:SV) (Hs:Nat→List az) (n0:Nat) (hlen:∀ i,(Hs i).length=n0) (hfu:fv.under n0=true) (hcls:closed (Hs 0)→∀ i,closed (Hs i))
 (hy:∀ i p X,(aR e)[i]? =some p→bL Tryz.prog G fv [p.1.sv,.list 1 (p.2.map .str)] (Hs i++X) (fun r H'=>H'=Hs (i+1)++X)):
 ag Tryz.prog G 84 [e.sv,fv] (Hs 0) (fun r H'=>H'=Hs (aR e).length):=by
 obtain⟨kd,nm,nn,op,names,ad,binds,alts⟩:=e
 have hle:=Ex.cY kd nm nn op names ad binds alts
 have hpl:(aR (Ex.mk kd nm nn op names ad binds alts)).length=ad.length+binds.length+alts.length:=by simp[aR];omega
 refine ag.aK TB [4] aF _ Tryz.func84 rfl (by decide) Tryz.ntmps84 (by simp) rfl (by simp only[au,Nat.reduceAdd];rfl) fun C R' hR hC hcl hB=>?_;have X:=aO;have hC':=congrArg List.length hC
 have hcl:=hcls hcl
 have hC':=hC'.trans (hlen 0)
 have X:=Ig Hs n0 hlen
 (refine vx ?_;with_reducible repeat' first|exact trivial|(apply af.mk<;>intro hb)|apply ax.mk)
 refine eT (fun _:Unit=>[(1,fv),(2,.ptr n0 0 0 0),(4,.list 1 ((cT kd names binds).map .str))]) (fun _=>Hs 0++[.cells 0 8 [.agg [.int .i64 kd,.str nm,.int .i64 nn,.int .i64 op,.list 1 (names.map .str),.list 8 (aj ad),.list 9 (ao binds),.list 12 (aA alts)]]]) (fun _=>True) (fun K hK=>?_) (fun _ _=>?_)
 ·(refine bP ?_;with_reducible repeat' first|exact trivial|(apply af.mk<;>intro hb)|apply ax.mk)
  ·refine hK _ _ () trivial ?_
   simp only[cT,if_pos hb]
   exact bB (n0:=n0) [(n0,0)] hG hB hC' (hcl 0)
  ·refine aC (fun i:Nat=>[(1,fv),(2,.ptr n0 0 0 0),(23,.list 9 (ao binds)),(24,.int .i64 binds.length),(25,.int .i64 i),(4,.sl (n0+1) 0 0 i)])
    (fun i=>Hs 0++[.cells 0 8 [.agg [.int .i64 kd,.str nm,.int .i64 nn,.int .i64 op,.list 1 (names.map .str),.list 8 (aj ad),.list 9 (ao binds),.list 12 (aA alts)]],.cells 0 1 ((binds.take i).map fun b=> .str b.name)]) (fun i=>binds.length - i) (fun i=>i≤binds.length) 0 (Nat.zero_le _) ?_ ?_
   ·exact bB (n0:=n0) [(n0,0),(n0+1,0)] hG hB hC' (hcl 0)
   ·intro K2 i hi hK2
    (refine bP ?_;with_reducible repeat' first|exact trivial|(apply af.mk<;>intro hb)|apply ax.mk)
    ·refine hK2 _ _ (i+1) (by omega) (by omega) ?_
     simp only[List.take_succ_eq_append_getElem (show i<binds.length by omega),List.map_append,List.map_cons,List.map_nil]
     exact bB (n0:=n0) [(n0,0),(n0+1,0)] hG hB hC' (hcl 0)
    ·refine hK _ _ () trivial ?_
     obtain rfl:i=binds.length:=by omega
     have e1:cT kd names binds=binds.map Bd.name:=by simp[cT,‹kd=5›]
     simp only[e1,List.take_length,List.map_map]
     exact bB (n0:=n0) [(n0,0)] hG hB hC' (hcl 0)
  ·refine hK _ _ () trivial ?_
   simp only[cT,if_neg ‹¬ kd=3›,if_neg ‹¬ kd=5›,List.map_nil]
   exact bB (n0:=n0) [(n0,0)] hG hB hC' (hcl 0)
 ·(refine vx ?_;with_reducible repeat' first|exact trivial|(apply af.mk<;>intro hb)|apply ax.mk)
  refine eT (fun _:Unit=>[(1,fv),(2,.ptr n0 0 0 0),(4,.list 1 ((cT kd names binds).map .str))]) (fun _=>Hs ad.length++[.cells 0 8 [.agg [.int .i64 kd,.str nm,.int .i64 nn,.int .i64 op,.list 1 (names.map .str),.list 8 (aj ad),.list 9 (ao binds),.list 12 (aA alts)]]]) (fun _=>True) (fun K hK=>?_) (fun _ _=>?_)
  ·(refine bP ?_;with_reducible repeat' first|exact trivial|(apply af.mk<;>intro hb)|apply ax.mk)
   refine aC (fun i:Nat=>[(1,fv),(2,.ptr n0 0 0 0),(4,.list 1 ((cT kd names binds).map .str)),(36,.list 8 (aj ad)),(37,.int .i64 ad.length),(38,.int .i64 i)])
    (fun i=>Hs i++[.cells 0 8 [.agg [.int .i64 kd,.str nm,.int .i64 nn,.int .i64 op,.list 1 (names.map .str),.list 8 (aj ad),.list 9 (ao binds),.list 12 (aA alts)]]]) (fun i=>ad.length - i) (fun i=>i≤ad.length) 0 (Nat.zero_le _) ?_ ?_
   ·exact bB (n0:=n0) [(n0,0)] hG hB hC' (hcl 0)
   ·intro K2 i hi hK2
    (refine bP ?_;with_reducible repeat' first|exact trivial|(apply af.mk<;>intro hb)|apply ax.mk)
    ·refine fB (hy i _ _ (uj (by omega))) ?_
     rintro r H' rfl
     (refine bP ?_;with_reducible repeat' first|exact trivial|(apply af.mk<;>intro hb)|apply ax.mk)
     refine hK2 _ _ (i+1) (by omega) (by omega) ?_
     exact bB (n0:=n0) [(n0,0)] hG hB hC' (hcl (i+1))
    ·obtain rfl:i=ad.length:=by omega
     refine hK _ _ () trivial ?_
     exact bB (n0:=n0) [(n0,0)] hG hB hC' (hcl _)
  ·(refine vx ?_;with_reducible repeat' first|exact trivial|(apply af.mk<;>intro hb)|apply ax.mk)
   refine eT (fun _:Unit=>[(1,fv),(2,.ptr n0 0 0 0),(4,.list 1 ((cT kd names binds).map .str))]) (fun _=>Hs (ad.length+binds.length)++[.cells 0 8 [.agg [.int .i64 kd,.str nm,.int .i64 nn,.int .i64 op,.list 1 (names.map .str),.list 8 (aj ad),.list 9 (ao binds),.list 12 (aA alts)]]]) (fun _=>True) (fun K hK=>?_) (fun _ _=>?_)
   ·(refine bP ?_;with_reducible repeat' first|exact trivial|(apply af.mk<;>intro hb)|apply ax.mk)
    refine aC (fun i:Nat=>[(1,fv),(2,.ptr n0 0 0 0),(4,.list 1 ((cT kd names binds).map .str)),(48,.list 9 (ao binds)),(49,.int .i64 binds.length),(50,.int .i64 i)])
     (fun i=>Hs (ad.length+i)++[.cells 0 8 [.agg [.int .i64 kd,.str nm,.int .i64 nn,.int .i64 op,.list 1 (names.map .str),.list 8 (aj ad),.list 9 (ao binds),.list 12 (aA alts)]]]) (fun i=>binds.length - i) (fun i=>i≤binds.length) 0 (Nat.zero_le _) ?_ ?_
    ·exact bB (n0:=n0) [(n0,0)] hG hB hC' (hcl _)
    ·intro K2 i hi hK2
     (refine bP ?_;with_reducible repeat' first|exact trivial|(apply af.mk<;>intro hb)|apply ax.mk)
     ·refine fB (hy (ad.length+i) _ _ (sC (by omega))) ?_
      rintro r H' rfl
      (refine bP ?_;with_reducible repeat' first|exact trivial|(apply af.mk<;>intro hb)|apply ax.mk)
      refine hK2 _ _ (i+1) (by omega) (by omega) ?_
      exact bB (n0:=n0) [(n0,0)] hG hB hC' (hcl _)
     ·obtain rfl:i=binds.length:=by omega
      refine hK _ _ () trivial ?_
      exact bB (n0:=n0) [(n0,0)] hG hB hC' (hcl _)
   ·(refine bP ?_;with_reducible repeat' first|exact trivial|(apply af.mk<;>intro hb)|apply ax.mk)
    refine aC (fun i:Nat=>[(1,fv),(2,.ptr n0 0 0 0),(61,.list 12 (aA alts)),(62,.int .i64 alts.length),(63,.int .i64 i)])
     (fun i=>Hs (ad.length+binds.length+i)++[.cells 0 8 [.agg [.int .i64 kd,.str nm,.int .i64 nn,.int .i64 op,.list 1 (names.map .str),.list 8 (aj ad),.list 9 (ao binds),.list 12 (aA alts)]]]) (fun i=>alts.length - i) (fun i=>i≤alts.length) 0 (Nat.zero_le _) ?_ ?_
    ·exact bB (n0:=n0) [(n0,0)] hG hB hC' (hcl _)
    ·intro K2 i hi hK2
     (refine bP ?_;with_reducible repeat' first|exact trivial|(apply af.mk<;>intro hb)|apply ax.mk)
     ·have hi':i<alts.length:=by omega
      have hnl:=Al.j8 (kd:=kd) (nm:=nm) (nn:=nn) (op:=op) (names:=names) (ad:=ad) (binds:=binds) hi'
      refine bh (nh G hG alts[i].names _ (by omega)) ?_
      rintro r H' ⟨rfl,rfl⟩
      simp only[List.append_assoc,List.cons_append,List.nil_append,List.length_append,List.length_cons,List.length_nil,List.length_set,X,Nat.reduceAdd]
      (refine jD ?_;with_reducible repeat' first|exact trivial|(apply af.mk<;>intro hb)|apply ax.mk)
      refine eT (fun _:Unit=>[(1,fv),(2,.ptr n0 0 0 0),(61,.list 12 (aA alts)),(62,.int .i64 alts.length),(63,.int .i64 i),(12,.ptr (n0+1) 0 0 0),(13,.list 1 ((alts[i].names++if kd=6 then [nm] else []).map .str))])
       (fun _=>Hs (ad.length+binds.length+i)++[.cells 0 8 [.agg [.int .i64 kd,.str nm,.int .i64 nn,.int .i64 op,.list 1 (names.map .str),.list 8 (aj ad),.list 9 (ao binds),.list 12 (aA alts)]],.cells 0 12 [.agg (.int .i64 alts[i].kind:: .str alts[i].name:: .int .i64 alts[i].n:: .list 1 (alts[i].names.map .str)::alts[i].body.cells)]]) (fun _=>True) (fun K3 hK3=>?_) (fun _ _=>?_)
      ·(refine bP ?_;with_reducible repeat' first|exact trivial|(apply af.mk<;>intro hb)|apply ax.mk)
       ·refine hK3 _ _ () trivial ?_
        simp only[if_pos hb,List.map_append,List.map_cons,List.map_nil,Nat.add_assoc]
        exact bB (n0:=n0) [(n0,0),(n0+1,0)] hG hB hC' (hcl _)
       ·refine hK3 _ _ () trivial ?_
        simp only[if_neg hb,List.append_nil,Nat.add_assoc]
        exact bB (n0:=n0) [(n0,0),(n0+1,0)] hG hB hC' (hcl _)
      ·(refine bP ?_;with_reducible repeat' first|exact trivial|(apply af.mk<;>intro hb)|apply ax.mk)
       refine fB (hy (ad.length+binds.length+i) _ _ (ui hi')) ?_
       rintro r H' rfl
       (refine bP ?_;with_reducible repeat' first|exact trivial|(apply af.mk<;>intro hb)|apply ax.mk)
       refine hK2 _ _ (i+1) (by omega) (by omega) ?_
       exact bB (n0:=n0) [(n0,0)] hG hB hC' (hcl _)
     ·obtain rfl:i=alts.length:=by omega
      refine Fin.dx (n0:=n0) hR (hlen _) hC' (hcl _) (.same _ rfl) ?_
      rw[hpl]
def cK:List (aI×Int)→aI→Int
 |[],_=>0
 |(k,n)::r,s=>if s=k then n else cK r s
def ny:List (aI×Int)→aI→Int→List (aI×Int)
 |[],s,n=>[(s,n)]
 |(k,m)::r,s,n=>if s=k then (s,n)::r else (k,m)::ny r s n
def qk (l:List (aI×Int)):List (SV×SV):=l.map fun p=>(.str p.1,.int .i64 p.2)
def j9 (l:List aI) (s:aI):List aI:=if s∈l then l else l++[s]
def gT (l:List aI):List (SV×SV):=l.map fun s=>(.str s,.bool true)
theorem ry:∀ (l:List (aI×Int)) (s:aI),(cM (qk l) (.str s)).getD (.int .i64 0)= .int .i64 (cK l s)
 |[],s=>rfl
 |(k,n)::r,s=>by
  simp only[qk,List.map_cons,cM,SV.fD,cK]
  by_cases h:s=k
  ·simp[h]
  ·simp only[beq_eq_false_iff_ne.2 h,h,if_false,Bool.false_eq_true]
   exact ry r s
theorem pG:∀ (l:List (aI×Int)) (s:aI) (n:Int),dw (qk l) (.str s) (.int .i64 n)=qk (ny l s n)
 |[],s,n=>rfl
 |(k,m)::r,s,n=>by
  simp only[qk,List.map_cons,dw,SV.fD,ny]
  by_cases h:s=k
  ·simp[h]
  ·simp only[beq_eq_false_iff_ne.2 h,h,if_false,Bool.false_eq_true]
   rw[show dw (List.map _ r) (.str s) (.int .i64 n)=_ from pG r s n]
   rfl
theorem kl:∀ (l:List aI) (s:aI),dw (gT l) (.str s) (.bool true)=gT (j9 l s)
 |[],s=>rfl
 |k::r,s=>by
  simp only[gT,List.map_cons,dw,SV.fD,j9]
  by_cases h:s=k
  ·simp[h]
  ·simp only[beq_eq_false_iff_ne.2 h,if_false,Bool.false_eq_true]
   rw[show dw (List.map _ r) (.str s) (.bool true)=_ from kl r s]
   simp only[gT,j9,List.mem_cons,h,false_or]
   split<;>rfl
theorem nL:∀ (l:List (aI×Int)) (s:aI) (n:Int) (t:aI),cK (ny l s n) t=if t=s then n else cK l t
 |[],s,n,t=>by simp[ny,cK]
 |(k,m)::r,s,n,t=>by
  by_cases h:s=k
  ·subst h
   by_cases ht:t=s<;>simp[ny,cK,ht]
  ·simp only[ny,if_neg h,cK,nL r s n t]
   by_cases ht:t=k
   ·subst ht
    rw[if_pos rfl,if_neg (fun e=>h e.symm)]
    rw[if_pos rfl]
   ·rw[if_neg ht,if_neg ht]
def jx (b:List (aI×Int)) (l:List aI):List (aI×Int):=l.foldl (fun b n=>ny b n (cK b n+1)) b
def s8 (b:List (aI×Int)) (l:List aI):List (aI×Int):=l.foldl (fun b n=>ny b n (cK b n - 1)) b
theorem gM:∀ (l:List aI) (b:List (aI×Int)) (s:aI),cK (jx b l) s=cK b s+l.count s
 |[],b,s=>by simp[jx]
 |x::l,b,s=>by
  rw[jx,List.foldl_cons,← jx,gM l,nL,List.count_cons]
  by_cases h:s=x
  ·subst h;simp;omega
  ·have h2:¬ x=s:=fun e=>h e.symm
   simp[h,h2]
theorem qt:∀ (l:List aI) (b:List (aI×Int)) (s:aI),cK (s8 b l) s=cK b s - l.count s
 |[],b,s=>by simp[s8]
 |x::l,b,s=>by
  rw[s8,List.foldl_cons,← s8,qt l,nL,List.count_cons]
  by_cases h:s=x
  ·subst h;simp;omega
  ·have h2:¬ x=s:=fun e=>h e.symm
   simp[h,h2]
theorem Dd (b:List (aI×Int)) (l:List aI) (x:aI):jx b (l++[x])=ny (jx b l) x (cK (jx b l) x+1):=by simp[jx]
theorem Cz (b:List (aI×Int)) (l:List aI) (x:aI):s8 b (l++[x])=ny (s8 b l) x (cK (s8 b l) x - 1):=by simp[s8]
abbrev BO:=List (aI×Int)×List aI
def fo (f:Ex→BO→BO) (st:BO) (p:Ex×List aI):BO:=(s8 (f p.1 (jx st.1 p.2,st.2)).1 p.2,(f p.1 (jx st.1 p.2,st.2)).2)
def dN:Nat→Ex→BO→BO
 |0,_,st=>st
 |m+1,e,st=>if e.kind=1 then (if cK st.1 e.name=0 then (st.1,j9 st.2 e.name) else st) else (aR e).foldl (fo (dN m)) st
theorem vD:∀ (m:Nat) (e:Ex) (st:BO) (s:aI),cK (dN m e st).1 s=cK st.1 s
 |0,e,st,s=>rfl
 |m+1,e,st,s=>by
  rw[dN]
  split
  ·split<;>rfl
  ·generalize aR e=l
   induction l generalizing st with
   |nil=>rfl
   |cons p l ih=>
    rw[List.foldl_cons,ih]
    simp only[fo,qt,vD m,gM]
    omega
theorem mu (m:Nat) (st:BO) (p:Ex×List aI) (s:aI):cK (fo (dN m) st p).1 s=cK st.1 s:=by
 simp only[fo,qt,vD m,gM]
 omega
theorem rf (m:Nat):∀ (l:List (Ex×List aI)) (st:BO) (s:aI),cK (l.foldl (fo (dN m)) st).1 s=cK st.1 s
 |[],st,s=>rfl
 |p::l,st,s=>by rw[List.foldl_cons,rf m l,mu]
theorem sD {e:Ex} {p:Ex×List aI} (h:p∈aR e):p.1.wt+p.2.length<e.wt:=by
 obtain⟨kd,nm,nn,op,names,ad,binds,alts⟩:=e
 have h1:=ea names
 have h2:∀ (l:List Bd) (b:Bd),b∈l→b.e.wt+l.length≤aW l:=fun l=>by
  induction l with
  |nil=>intro b hb;cases hb
  |cons x r ih=>
   intro b hb
   simp only[aW,List.length_cons]
   have hx:=x.cZ
   rcases List.mem_cons.1 hb with rfl|hb
   ·have:=dG r;omega
   ·have:=ih b hb;omega
 have hown:(cT kd names binds).length≤cW names+binds.length:=by
  unfold cT
  split
  ·omega
  ·split<;>simp
 have h3:=dG binds
 simp only[Ex.wt]
 simp only[aR,List.mem_append,List.mem_map] at h
 rcases h with⟨x,hx,rfl⟩|⟨b,hb,rfl⟩|⟨a,ha,rfl⟩
 ·have:=cH hx
  simp only;omega
 ·have:=h2 binds b hb
  simp only
  have:(cT kd names binds).length≤cW names+binds.length:=hown
  unfold cT
  split
  ·omega
  ·split
   ·simp;omega
   ·simp;omega
 ·have h4:=cN ha
  obtain⟨ak,an,am,al,ab⟩:=a
  simp only[Al.wt] at h4
  simp only[Al.body,Al.names,List.length_append]
  have:=ea al
  split<;>simp<;>omega
def UH (H:List az) (ib io:Nat) (st:BO):List az:=(H.set ib (.map none (qk st.1))).set io (.map none (gT st.2))
theorem mv (n:Nat):∀ l:List (aI×Int),dX n (qk l)=true
 |[]=>rfl
 |p::l=>by simp only[qk,List.map_cons,dX,SV.under,Bool.and_self,Bool.true_and];exact mv n l
theorem mw (n:Nat):∀ l:List aI,dX n (gT l)=true
 |[]=>rfl
 |p::l=>by simp only[gT,List.map_cons,dX,SV.under,Bool.and_self,Bool.true_and];exact mw n l
structure hY (M:BO→List az) (n0 ib io:Nat):Prop where
 len:∀ st,(M st).length=n0
 lt:ib<n0∧io<n0∧ib≠io
 get:∀ st,(M st)[ib]? =some (.map none (qk st.1))∧(M st)[io]? =some (.map none (gT st.2))
 set:∀ st b o,(M st).set ib (.map none (qk b))=M (b,st.2)∧(M st).set io (.map none (gT o))=M (st.1,o)
 rest:∀ st st' i,i≠ib→i≠io→(M st)[i]? =(M st')[i]?
theorem ER {H:List az} {ib io:Nat} {st0:BO} (hb:H[ib]? =some (.map none (qk st0.1))) (ho:H[io]? =some (.map none (gT st0.2))) (hne:ib≠io):hY (UH H ib io) H.length ib io∧UH H ib io st0=H:=by
 have lb:=(List.getElem?_eq_some_iff.1 hb).1
 have lo:=(List.getElem?_eq_some_iff.1 ho).1
 refine⟨⟨fun st=>by simp[UH],⟨lb,lo,hne⟩,fun st=>⟨?_,?_⟩,fun st b o=>⟨?_,?_⟩,fun st st' i h1 h2=>?_⟩,?_⟩
 ·simp only[UH]
  rw[List.getElem?_set_ne (fun e=>hne e.symm),List.getElem?_set_self lb]
 ·simp only[UH]
  rw[List.getElem?_set_self (by simpa using lo)]
 ·simp only[UH]
  rw[List.set_comm _ _ (fun e=>hne e.symm),List.set_set]
 ·simp only[UH]
  rw[List.set_set]
 ·simp only[UH]
  rw[List.getElem?_set_ne (fun e=>h2 e.symm),List.getElem?_set_ne (fun e=>h1 e.symm),List.getElem?_set_ne (fun e=>h2 e.symm),List.getElem?_set_ne (fun e=>h1 e.symm)]
 ·simp only[UH]
  rw[dV hb,dV ho]
theorem hY.cls {M:BO→List az} {n0 ib io:Nat} (h:hY M n0 ib io) {st st':BO} (hc:closed (M st)):closed (M st'):=by
 intro B hB
 obtain⟨i,hi,rfl⟩:=List.getElem_of_mem hB
 have hi2:i<(M st).length:=by rw[h.len] at hi ⊢;exact hi
 have hl:(M st').length=(M st).length:=by rw[h.len,h.len]
 have hg:(M st')[i]? =some (M st')[i]:=List.getElem?_eq_getElem hi
 rw[hl]
 show az.under _ ((M st')[i])=true
 by_cases h1:i=ib
 ·subst h1;rw[(h.get st').1] at hg;rw[← Option.some.inj hg];exact mv _ _
 ·by_cases h2:i=io
  ·subst h2;rw[(h.get st').2] at hg;rw[← Option.some.inj hg];exact mw _ _
  ·rw[h.rest st' st i h1 h2,List.getElem?_eq_getElem hi2] at hg
   rw[← Option.some.inj hg]
   exact hc _ (List.getElem_mem hi2)
theorem hY.app {M:BO→List az} {n0 ib io:Nat} (h:hY M n0 ib io) (L:List az):hY (fun st=>M st++L) (n0+L.length) ib io:=by
 have lb:∀ st,ib<(M st).length:=fun st=>by rw[h.len];exact h.lt.1
 have lo:∀ st,io<(M st).length:=fun st=>by rw[h.len];exact h.lt.2.1
 refine⟨fun st=>by simp[h.len],⟨by have:=h.lt.1;omega,by have:=h.lt.2.1;omega,h.lt.2.2⟩,fun st=>⟨?_,?_⟩,fun st b o=>⟨?_,?_⟩,fun st st' i h1 h2=>?_⟩
 ·rw[List.getElem?_append_left (lb st)];exact(h.get st).1
 ·rw[List.getElem?_append_left (lo st)];exact(h.get st).2
 ·rw[fV (lb st),(h.set st b o).1]
 ·rw[fV (lo st),(h.set st b o).2]
 ·rw[List.getElem?_append,List.getElem?_append,h.len,h.len,h.rest st st' i h1 h2]
theorem hY.UH {M:BO→List az} {n0 ib io:Nat} (h:hY M n0 ib io) (st st':BO):UH (M st) ib io st'=M st':=by
 simp only[Go.Proofs.YtedejleokilohaaGreatDoor.UH]
 rw[(h.set st st'.1 []).1,(h.set _ [] st'.2).2]
theorem hY.X {M:BO→List az} {n0 ib io:Nat} (h:hY M n0 ib io):((∀ st L,(M st++L)[ib]? =some (.map none (qk st.1)))∧(∀ st L,(M st++L)[io]? =some (.map none (gT st.2))))∧
 ((∀ st b L,(M st++L).set ib (.map none (qk b))=M (b,st.2)++L)∧(∀ st o L,(M st++L).set io (.map none (gT o))=M (st.1,o)++L))∧
 ((∀ st b,(M st).set ib (.map none (qk b))=M (b,st.2))∧(∀ st o,(M st).set io (.map none (gT o))=M (st.1,o)))∧
 ((∀ st,(M st)[ib]? =some (.map none (qk st.1)))∧(∀ st,(M st)[io]? =some (.map none (gT st.2))))∧
 ((∀ st,(M st).length=n0)∧(∀ st L,(M st++L)[n0]? =L[0]?)∧(∀ st L k,(M st++L)[n0+k]? =L[k]?)∧(∀ st L x,(M st++L).set n0 x=M st++L.set 0 x)∧(∀ st L k x,(M st++L).set (n0+k) x=M st++L.set k x)):=by
 have lb:∀ st,ib<(M st).length:=fun st=>by rw[h.len];exact h.lt.1
 have lo:∀ st,io<(M st).length:=fun st=>by rw[h.len];exact h.lt.2.1
 exact⟨⟨fun st L=>by rw[List.getElem?_append_left (lb st)];exact(h.get st).1,fun st L=>by rw[List.getElem?_append_left (lo st)];exact(h.get st).2⟩,
  ⟨fun st b L=>by rw[fV (lb st),(h.set st b []).1],fun st o L=>by rw[fV (lo st),(h.set st [] o).2]⟩,
  ⟨fun st b=>(h.set st b []).1,fun st o=>(h.set st [] o).2⟩,
  ⟨fun st=>(h.get st).1,fun st=>(h.get st).2⟩,Ig M n0 h.len⟩
attribute [go_sem] ry pG kl
def Ga (b:List (aI×Int)) (w:Nat):Prop:=∀ s,0≤cK b s∧cK b s+w<1099511627776
def F4 (G:Gl) (f:Ex→BO→BO) (e:Ex):Prop:=∀ (H:List az) (ib io:Nat) (st:BO),H[ib]? =some (.map none (qk st.1))→H[io]? =some (.map none (gT st.2))→ib≠io→Ga st.1 e.wt→
 ag Tryz.prog G 36 [e.sv,.map ib,.map io] H (fun r H'=>H'=UH H ib io (f e st))
theorem x5 (G:Gl) (hG:aw G) (f:Ex→BO→BO) (s:Ex) (names:List aI) (hf:F4 G f s) (hfc:∀ st t,cK (f s st).1 t=cK st.1 t) (M:BO→List az) (n0 ib io pb po:Nat) (hM:hY M n0 ib io)
 (hpb:∀ st L,(M st++L)[pb]? =some (.cells 0 1 [.map ib])) (hpo:∀ st L,(M st++L)[po]? =some (.cells 0 1 [.map io])) (hp:pb<n0∧po<n0) (st:BO) (hc:Ga st.1 (s.wt+names.length)) (hw:s.wt+names.length<549755813888):
 ag Tryz.prog G 85 [s.sv,.list 1 (names.map .str),.ptr pb 0 0 0,.ptr po 0 0 0] (M st) (fun r H'=>H'=M (fo f st (s,names))):=by
 refine ag.aK TB [] aF _ Tryz.func85 rfl (by decide) Tryz.ntmps85 (by simp) rfl (by simp only[au,Nat.reduceAdd];rfl) fun C R' hR hC hcl hB=>?_;have X:=aO;have hC':=congrArg List.length hC
 have hC':=hC'.trans (hM.len st)
 have X:=And.intro hM.X (And.intro hpb hpo)
 have hlen:=hM.len
 have hcls:∀ st',closed (M st'):=fun st'=>hM.cls hcl
 have hc2:=hc
 (refine bP ?_;with_reducible repeat' first|exact trivial|(apply af.mk<;>intro hb)|apply ax.mk)
 refine aC (fun i:Nat=>[(1,.list 1 (names.map .str)),(2,.ptr pb 0 0 0),(3,.ptr po 0 0 0),(4,.ptr n0 0 0 0),(10,.list 1 (names.map .str)),(11,.int .i64 names.length),(12,.int .i64 i)])
  (fun i=>M (jx st.1 (names.take i),st.2)++[.cells 0 8 [s.sv]]) (fun i=>names.length - i) (fun i=>i≤names.length) 0 (Nat.zero_le _) ?_ ?_
 ·exact bB (n0:=n0) [(n0,0)] hG hB hC' (hcls _)
 ·intro K i hi hK
  (refine bP ?_;with_reducible repeat' first|exact trivial|(apply af.mk<;>intro hb)|apply ax.mk)
  ·have hi':i<names.length:=by omega
   have h1:=gM (names.take i) st.1 names[i]
   have h2:=hc2 names[i]
   have h3:(names.take i).count names[i]≤(names.take i).length:=List.count_le_length
   rw[List.length_take] at h3
   rw[wrap_i64 _ (by omega),← Dd,← List.take_succ_eq_append_getElem hi']
   exact hK _ _ (i+1) (by omega) (by omega) (bB (n0:=n0) [(n0,0)] hG hB hC' (hcls _))
  ·obtain rfl:i=names.length:=by omega
   rw[List.take_length]
   have hcall:=hf (M (jx st.1 names,st.2)++[.cells 0 8 [s.sv]]) ib io (jx st.1 names,st.2) (hM.X.1.1 _ _) (hM.X.1.2 _ _) hM.lt.2.2 (fun t=>by
    have h1:=gM names st.1 t
    have h2:=hc2 t
    have h3:names.count t≤names.length:=List.count_le_length
    simp only
    omega)
   rw[(hM.app _).UH] at hcall
   refine bh hcall ?_
   rintro r H' rfl
   generalize hst2:f s (jx st.1 names,st.2)=st2
   have hcn:∀ t,cK st2.1 t=cK st.1 t+names.count t:=fun t=>by rw[← hst2,hfc,gM]
   (refine bP ?_;with_reducible repeat' first|exact trivial|(apply af.mk<;>intro hb)|apply ax.mk)
   refine aC (fun i:Nat=>[(2,.ptr pb 0 0 0),(25,.list 1 (names.map .str)),(26,.int .i64 names.length),(27,.int .i64 i)])
    (fun i=>M (s8 st2.1 (names.take i),st2.2)++[]) (fun i=>names.length - i) (fun i=>i≤names.length) 0 (Nat.zero_le _) ?_ ?_
   ·exact bB (n0:=n0) [] hG hB hC' (hcls _)
   ·intro K2 i hi hK2
    (refine bP ?_;with_reducible repeat' first|exact trivial|(apply af.mk<;>intro hb)|apply ax.mk)
    ·have hi':i<names.length:=by omega
     have h1:=qt (names.take i) st2.1 names[i]
     rw[hcn] at h1
     have h2:=hc2 names[i]
     have h3:(names.take i).count names[i]≤(names.take i).length:=List.count_le_length
     have h4:names.count names[i]≤names.length:=List.count_le_length
     rw[List.length_take] at h3
     rw[wrap_i64 _ (by omega),← Cz,← List.take_succ_eq_append_getElem hi']
     exact hK2 _ _ (i+1) (by omega) (by omega) (bB (n0:=n0) [] hG hB hC' (hcls _))
    ·obtain rfl:i=names.length:=by omega
     rw[List.take_length]
     refine Fin.dx (n0:=n0) hR (hlen _) hC' (hcls _) (.same _ rfl) ?_
     simp only[fo,hst2]
theorem nA (G:Gl) (hG:aw G):∀ (m:Nat) (e:Ex),e.wt≤m→e.wt<549755813888→F4 G (dN m) e
 |0,e,hw,_=>by have:=e.bz;omega
 |m+1,e,hw,hw0=>by
  intro H ib io st hb ho hne hc
  obtain⟨kd,nm,nn,op,names,ad,binds,alts⟩:=e
  obtain⟨hM,hM0⟩:=ER hb ho hne
  generalize UH H ib io=M at hM hM0 ⊢
  have hlt:=hM.lt
  have hlen:=hM.len
  rw[← hM0]
  refine ag.aK TB [] aF _ Tryz.func36 rfl (by decide) Tryz.ntmps36 (by simp) rfl (by simp only[au,Nat.reduceAdd];rfl) fun C R' hR hC hcl hB=>?_;have X:=aO;have hC':=congrArg List.length hC
  have hC':=hC'.trans (hlen st)
  generalize H.length=n0 at hM hlt hlen hC' ⊢
  have X:=hM.X
  have hcls:∀ st',closed (M st'):=fun st'=>hM.cls hcl
  have hu:kd≠1→dN (m+1) (.mk kd nm nn op names ad binds alts) st=(aR (.mk kd nm nn op names ad binds alts)).foldl (fo (dN m)) st:=fun h=>by rw[dN];exact if_neg h
  have hv:kd=1→dN (m+1) (.mk kd nm nn op names ad binds alts) st=if cK st.1 nm=0 then (st.1,j9 st.2 nm) else st:=fun h=>by rw[dN];exact if_pos h
  (refine run ?_;with_reducible repeat' first|exact trivial|(apply af.mk<;>intro hb)|apply ax.mk)
  ·refine Fin.dx (n0:=n0) hR (hlen _) hC' (hcls _) (.same _ rfl) ?_
   have h3:= ‹(decide (kd=1)&&decide (cK st.1 nm=0))=true›
   simp only[Bool.and_eq_true,decide_eq_true_eq] at h3
   rw[hv hb,if_pos h3.2]
  ·exfalso;simp_all
  ·refine Fin.dx (n0:=n0) hR (hlen _) hC' (hcls _) (.same _ rfl) ?_
   have h3:= ‹(decide (kd=1)&&decide (cK st.1 nm=0))=false›
   simp only[Bool.and_eq_false_iff,decide_eq_false_iff_not] at h3
   rw[hv hb,if_neg (by rcases h3 with h3|h3;exact absurd hb h3;exact h3)]
  ·let stI:Nat→BO:=fun i=>((aR (.mk kd nm nn op names ad binds alts)).take i).foldl (fo (dN m)) st
   have hsc:=BA G hG (.mk kd nm nn op names ad binds alts) hw0 (.fn (.func 85) [] [.ptr (n0+1) 0 0 0,.ptr (n0+2) 0 0 0])
    (fun i=>M (stI i)++[.cells 0 8 [.agg [.int .i64 kd,.str nm,.int .i64 nn,.int .i64 op,.list 1 (names.map .str),.list 8 (aj ad),.list 9 (ao binds),.list 12 (aA alts)]],.cells 0 1 [.map ib],.cells 0 1 [.map io]]) (n0+3) (fun i=>by simp[hlen]) (by simp[SV.under,SV.aB]) (fun hc i=>(hM.app _).cls hc) (fun i p Y hp=>by
     refine bL.of ?_
     have hpm:=List.mem_of_getElem? hp
     have hpw:=sD hpm
     have hst:stI (i+1)=fo (dN m) (stI i) p:=by
      have hi:=(List.getElem?_eq_some_iff.1 hp)
      obtain⟨hi1,hi2⟩:=hi
      simp only[stI,List.take_succ_eq_append_getElem hi1,List.foldl_append,List.foldl_cons,List.foldl_nil,hi2]
     have:=x5 G hG (dN m) p.1 p.2 (nA G hG m p.1 (by omega) (by omega)) (fun st t=>vD m p.1 st t) (fun st=>(M st++[.cells 0 8 [.agg [.int .i64 kd,.str nm,.int .i64 nn,.int .i64 op,.list 1 (names.map .str),.list 8 (aj ad),.list 9 (ao binds),.list 12 (aA alts)]],.cells 0 1 [.map ib],.cells 0 1 [.map io]])++Y) _ ib io (n0+1) (n0+2) ((hM.app _).app Y)
      (fun st L=>by simp only[List.append_assoc,List.cons_append,X,List.getElem?_cons_succ,List.getElem?_cons_zero]) (fun st L=>by simp only[List.append_assoc,List.cons_append,X,List.getElem?_cons_succ,List.getElem?_cons_zero]) (by simp;omega) (stI i) (fun t=>by
       have h1:=rf m ((aR (.mk kd nm nn op names ad binds alts)).take i) st t
       have h2:=hc t
       show 0≤cK (List.foldl (fo (dN m)) st _).1 t∧cK (List.foldl (fo (dN m)) st _).1 t+_<_
       omega) (by omega)
     simp only[hst]
     exact this)
   simp only[show stI 0=st from rfl] at hsc
   refine bh hsc ?_
   rintro r H' rfl
   have hend:stI (aR (.mk kd nm nn op names ad binds alts)).length=dN (m+1) (.mk kd nm nn op names ad binds alts) st:=by
    rw[hu hb];simp only[stI,List.take_length]
   simp only[hend]
   (refine run ?_;with_reducible repeat' first|exact trivial|(apply af.mk<;>intro hb)|apply ax.mk)
   exact Fin.dx (n0:=n0) hR (hlen _) hC' (hcls _) (.same _ rfl) rfl
theorem DD {l:List aI} {born:List Nat} {idx:List Nat} (hnd:idx.Nodup) (hlt:∀ i∈idx,i<l.length) (hb:born.Nodup) (hlb:born.length=l.length)
 (hall:∀ b∈born,(idx.map fun i=>born.getD i 0).toArray.contains b=true):(idx.map fun i=>l.getD i []).Perm l:=by
 have hin:∀ i,i<l.length→i∈idx:=fun i hi=>by
  have hi':i<born.length:=by omega
  have:=hall born[i] (List.getElem_mem hi')
  simp only[List.contains_toArray,List.contains_iff_mem,List.mem_map] at this
  obtain⟨j,hj,e⟩:=this
  have hj':j<born.length:=by have:=hlt j hj;omega
  rw[List.getD_eq_getElem?_getD,List.getElem?_eq_getElem hj'] at e
  simp only[Option.getD_some] at e
  obtain rfl:j=i:=(List.getElem_inj hb).1 e
  exact hj
 have hp:idx.Perm (List.range l.length):=(List.perm_ext_iff_of_nodup hnd List.nodup_range).2 fun i=>by
  rw[List.mem_range];exact⟨hlt i,hin i⟩
 have:=hp.map fun i=>l.getD i []
 refine this.trans (.of_eq ?_)
 apply List.ext_getElem?
 intro i
 rw[List.getElem?_map]
 by_cases h:i<l.length
 ·rw[List.getElem?_range h];simp[h]
 ·rw[List.getElem?_eq_none (by simpa using h),List.getElem?_eq_none (by omega)];rfl
theorem DC {n:Nat} {idx:List Nat} (hnd:idx.Nodup) (hlt:∀ i∈idx,i<n):idx.length≤n:=by
 have hp:idx.Perm ((List.range n).filter fun i=>decide (i∈idx)):=(List.perm_ext_iff_of_nodup hnd (List.nodup_range.filter _)).2 fun i=>by
  simp only[List.mem_filter,List.mem_range,decide_eq_true_eq]
  exact⟨fun h=>⟨hlt i h,h⟩,fun h=>h.2⟩
 have h2:=List.length_filter_le (fun i=>decide (i∈idx)) (List.range n)
 rw[← hp.length_eq,List.length_range] at h2
 exact h2
theorem Dj (G:Gl) (hG:aw G) (n1 pb n0 bm clk:Nat) (born:List Nat) (l:List aI) (vs:List SV) (hlb:born.length=l.length) (hlv:vs.length=l.length) (hnd:born.Nodup) (M:List aI→List az) (hlen:∀ s,(M s).length=n0) (h1:n1<n0) (hll:l.length<1099511627776)
 (hpb:∀ s L,(M s++L)[pb]? =some (.cells 0 1 [.fI bm clk born none (l.map .str) vs])) (hvs:∀ n,SV.aB n vs=true) (hcls:closed (M [])→∀ s,closed (M s))
 (hy:∀ s x X,s.length<l.length→bL Tryz.prog G (.it n1) [.str x] (M s++X) (fun r H'=>H'=M (s++[x])++X∧r= .bool true)):
 ag Tryz.prog G 145 [.it n1,.ptr pb 0 0 0] (M []) (fun r H'=>∃ s,s.Perm l∧H'=M s):=by
 refine ag.aK TB [] aF _ Tryz.func145 rfl (by decide) Tryz.ntmps145 (by simp) rfl (by simp only[au,Nat.reduceAdd];rfl) fun C R' hR hC hcl hB=>?_;have X:=aO;have hC':=congrArg List.length hC
 have hC':=hC'.trans (hlen [])
 have hcl:=hcls hcl
 have hpb0:∀ s,(M s)[pb]? =some (.cells 0 1 [.fI bm clk born none (l.map .str) vs]):=fun s=>by simpa using hpb s []
 have X:=And.intro (Ig M n0 hlen) (And.intro hpb hpb0)
 have hks:∀ n,SV.aB n (l.map SV.str)=true:=fun n=>cm n l
 have him:(SV.fI bm clk born none (l.map SV.str) vs).under n0=true:=by simp only[SV.under,hks,hvs,Bool.and_self]
 (refine run ?_;with_reducible repeat' first|exact trivial|(apply af.mk<;>intro hb)|apply ax.mk)
 refine CZ rfl rfl rfl ?_
 simp only[hlen]
 (refine run ?_;with_reducible repeat' first|exact trivial|(apply af.mk<;>intro hb)|apply ax.mk)
 refine aC (fun idx:List Nat=>[(0,.it n1),(4,.fI bm clk born none (l.map .str) vs),(5,.it n0)]) (fun idx=>M (idx.map fun i=>l.getD i [])++[.obj (.mapIter (some bm) clk (idx.map fun i=>born.getD i 0).toArray clk)])
  (fun idx=>l.length - idx.length) (fun idx=>idx.Nodup∧∀ i∈idx,i<l.length) [] ⟨List.nodup_nil,by simp⟩ ?_ ?_
 ·exact Wk.sub (by simp[bR,look])
 ·rintro K idx ⟨hi1,hi2⟩ hK
  have hle:=DC hi1 hi2
  generalize hs:idx.map (fun i=>l.getD i [])=s
  generalize hse:(idx.map fun i=>born.getD i 0).toArray=seen
  (refine run ?_;with_reducible repeat' first|exact trivial|(apply af.mk<;>intro hb)|apply ax.mk)
  refine Fh (tm:=4) rfl rfl (by simp only[X,List.getElem?_cons_zero];rfl) rfl (fun hall=>?_) (fun i b q y hb hsn hq hy2=>?_)
  ·(refine run ?_;with_reducible repeat' first|exact trivial|(apply af.mk<;>intro hb)|apply ax.mk)
   refine Fin.dx (n0:=n0) hR (hlen _) hC' (hcl _) (.same _ rfl) ⟨s,?_,rfl⟩
   rw[← hs]
   exact DD hi1 hi2 hnd hlb (fun b hb=>by rw[hse];exact hall b hb)
  ·have hi:i<l.length:=by have:=(List.getElem?_eq_some_iff.1 hb).1;omega
   have hq':q= .str l[i]:=by rw[List.getElem?_map,List.getElem?_eq_getElem hi] at hq;cases hq;rfl
   subst hq'
   have hni:i∉idx:=fun hm=>by
    rw[← hse] at hsn
    have:(idx.map fun i=>born.getD i 0).toArray.contains b=true:=by
     simp only[List.contains_toArray,List.contains_iff_mem,List.mem_map]
     exact⟨i,hm,by rw[List.getD_eq_getElem?_getD,hb];rfl⟩
    rw[this] at hsn;cases hsn
   have hlt:idx.length<l.length:=by
    have:=DC (n:=l.length) (idx:=idx++[i]) (List.nodup_append.2 ⟨hi1,by simp,by simp;exact fun a ha e=>hni (e ▸ ha)⟩) (by simp only[List.mem_append,List.mem_singleton];exact fun a ha=>ha.elim (hi2 a) (fun e=>e ▸ hi))
    simp at this;omega
   have hsl:s.length=idx.length:=by rw[← hs];simp
   simp only[X,List.set_cons_zero]
   (refine run ?_;with_reducible repeat' first|exact trivial|(apply af.mk<;>intro hb)|apply ax.mk)
   refine CU (tm:=4) rfl rfl (by simp only[X,List.getElem?_cons_zero];rfl) hb (by rw[List.getElem?_map,List.getElem?_eq_getElem hi];rfl) hy2 rfl ?_
   (refine run ?_;with_reducible repeat' first|exact trivial|(apply af.mk<;>intro hb)|apply ax.mk)
   refine fB (hy s l[i] _ (by omega)) ?_
   rintro r H' ⟨rfl,rfl⟩
   (refine run ?_;with_reducible repeat' first|exact trivial|(apply af.mk<;>intro hb)|apply ax.mk)
   have e1:(idx++[i]).map (fun i=>l.getD i [])=s++[l[i]]:=by
    rw[List.map_append,hs];simp[hi]
   have e2:((idx++[i]).map fun i=>born.getD i 0).toArray=seen.push b:=by
    rw[List.map_append,← hse];simp[hb]
   refine hK _ _ (idx++[i]) (by simp;omega) ⟨List.nodup_append.2 ⟨hi1,by simp,by simp;exact fun a ha e=>hni (e ▸ ha)⟩,by simp only[List.mem_append,List.mem_singleton];exact fun a ha=>ha.elim (hi2 a) (fun e=>e ▸ hi)⟩ ?_
   rw[e1,e2]
   exact Wk.sub (by simp[bR,look])
end Go.Proofs.YtedejleokilohaaGreatDoor
section
open Go
namespace Go.Proofs
open Go.Shelf
def Tryz.xf:Go.Shelf.Ren:=⟨fun|190=>34|125=>83|258=>82|128=>132|129=>133|302=>123|303=>124|304=>125|305=>126|306=>127|307=>128|308=>129|309=>130|310=>131|333=>152|329=>153|330=>154|334=>155|335=>156|336=>157|344=>167|n=>n,fun|31=>36|9=>9|3=>3|46=>124|0=>0|51=>171|53=>173|4=>4|183=>164|182=>163|131=>46|5=>5|218=>190|222=>194|228=>208|229=>153|n=>n,fun|n=>n⟩
theorem Tryz.z8:Go.Proofs.Lays.n190 Tryz.prog Tryz.xf:={
 mixed:=by kernel_rfl
 f125:=Tryz.func83.trans (congrArg some (by kernel_rfl))
 f128:=Tryz.func132.trans (congrArg some (by kernel_rfl))
 f129:=Tryz.func133.trans (congrArg some (by kernel_rfl))
 f190:=Tryz.func34.trans (congrArg some (by kernel_rfl))
 f258:=Tryz.func82.trans (congrArg some (by kernel_rfl))
 f302:=Tryz.func123.trans (congrArg some (by kernel_rfl))
 f303:=Tryz.func124.trans (congrArg some (by kernel_rfl))
 f304:=Tryz.func125.trans (congrArg some (by kernel_rfl))
 f305:=Tryz.func126.trans (congrArg some (by kernel_rfl))
 f306:=Tryz.func127.trans (congrArg some (by kernel_rfl))
 f307:=Tryz.func128.trans (congrArg some (by kernel_rfl))
 f308:=Tryz.func129.trans (congrArg some (by kernel_rfl))
 f309:=Tryz.func130.trans (congrArg some (by kernel_rfl))
 f310:=Tryz.func131.trans (congrArg some (by kernel_rfl))
 f329:=Tryz.func153.trans (congrArg some (by kernel_rfl))
 f330:=Tryz.func154.trans (congrArg some (by kernel_rfl))
 f333:=Tryz.func152.trans (congrArg some (by kernel_rfl))
 f334:=Tryz.func155.trans (congrArg some (by kernel_rfl))
 f335:=Tryz.func156.trans (congrArg some (by kernel_rfl))
 f336:=Tryz.func157.trans (congrArg some (by kernel_rfl))
 f344:=Tryz.func167.trans (congrArg some (by kernel_rfl))
 t0:=Tryz.underlying0
 a0:=Tryz.isAgg0
 z0:=Tryz.sizeOf0
 v0:=Tryz.zeroValue0
 t3:=Tryz.underlying3
 a3:=Tryz.isAgg3
 z3:=Tryz.sizeOf3
 v3:=Tryz.zeroValue3
 t4:=Tryz.underlying4
 a4:=Tryz.isAgg4
 z4:=Tryz.sizeOf4
 v4:=Tryz.zeroValue4
 t5:=Tryz.underlying5
 a5:=Tryz.isAgg5
 z5:=Tryz.sizeOf5
 v5:=Tryz.zeroValue5
 t9:=Tryz.underlying9
 a9:=Tryz.isAgg9
 z9:=Tryz.sizeOf9
 v9:=Tryz.zeroValue9
 t31:=Tryz.underlying36
 a31:=Tryz.isAgg36
 z31:=Tryz.sizeOf36
 v31:=Tryz.zeroValue36
 t46:=Tryz.underlying124
 a46:=Tryz.isAgg124
 z46:=Tryz.sizeOf124
 v46:=Tryz.zeroValue124
 t51:=Tryz.underlying171
 a51:=Tryz.isAgg171
 z51:=Tryz.sizeOf171
 v51:=Tryz.zeroValue171
 t53:=Tryz.underlying173
 a53:=Tryz.isAgg173
 z53:=Tryz.sizeOf173
 v53:=Tryz.zeroValue173
 t131:=Tryz.underlying46
 a131:=Tryz.isAgg46
 z131:=Tryz.sizeOf46
 v131:=Tryz.zeroValue46
 t182:=Tryz.underlying163
 a182:=Tryz.isAgg163
 z182:=Tryz.sizeOf163
 v182:=Tryz.zeroValue163
 t183:=Tryz.underlying164
 a183:=Tryz.isAgg164
 z183:=Tryz.sizeOf164
 v183:=Tryz.zeroValue164
 t218:=Tryz.underlying190
 a218:=Tryz.isAgg190
 z218:=Tryz.sizeOf190
 v218:=Tryz.zeroValue190
 t222:=Tryz.underlying194
 a222:=Tryz.isAgg194
 z222:=Tryz.sizeOf194
 v222:=Tryz.zeroValue194
 t228:=Tryz.underlying208
 a228:=Tryz.isAgg208
 z228:=Tryz.sizeOf208
 v228:=Tryz.zeroValue208
 t229:=Tryz.underlying153
 a229:=Tryz.isAgg153
 z229:=Tryz.sizeOf153
 v229:=Tryz.zeroValue153}
open Go.Sort Go.RowKit in
theorem Tryz.slices_Sort_string (eS off cap:Nat) (ss:List (List UInt8)) (w:World) (hH:Holds encStr w eS off ss.toArray) (hblk:eS<w.heap.size) (hsz:ss.length<4611686018427387904):
 Calls Tryz.prog 34 #[.slice (some ⟨eS,off,none⟩) ss.length cap] w fun e w'=>
  e= .returned (.tuple #[])∧∃ n os,w'=grow (putRow encStr (Sort.ahead w n) eS off (ss.mergeSort fun x y=>decide (x≤y)).toArray) os:=Any.slices_Sort_string Tryz.z8 eS off cap ss w hH hblk hsz
open Go.RowKit Go.Sort in
theorem Tryz.slices_Sort_string_none (p:Option Addr) (cap:Nat) (w:World):
 Calls Tryz.prog 34 #[.slice p 0 cap] w fun e w'=>e= .returned (.tuple #[])∧w'=w:=Any.slices_Sort_string_none Tryz.z8 p cap w
end Go.Proofs
end
namespace Go.Proofs.YtedejleokilohaaGreatDoor
open Go
theorem pR {H L L':List az} (h:closed (H++L)) (hl:L'.length=L.length) (hu:∀ b∈L',b.under (H.length+L.length)=true):closed (H++L'):=by
 intro B hB
 rw[List.length_append,hl]
 rcases List.mem_append.1 hB with h1|h1
 ·have:=h B (List.mem_append_left _ h1)
  rwa[List.length_append] at this
 ·exact hu B h1
theorem uH (G:Gl) (hG:aw G) (pb bm clk:Nat) (born:List Nat) (l:List aI) (vs:List SV) (hlb:born.length=l.length) (hlv:vs.length=l.length) (hnd:born.Nodup) (hll:l.length<1099511627776) (H:List az)
 (hpb:H[pb]? =some (.cells 0 1 [.fI bm clk born none (l.map .str) vs])) (hvs:∀ n,SV.aB n vs=true):
 ag Tryz.prog G 165 [.nil,.fn (.func 145) [] [.ptr pb 0 0 0]] H (fun r H'=>∃ s:List aI,s.Perm l∧H'=H++[.cells 0 1 (s.map .str)]∧r= .sl H.length 0 0 s.length):=by
 have hpl:pb<H.length:=(List.getElem?_eq_some_iff.1 hpb).1
 refine ag.aK TB [] aF _ Tryz.func165 rfl (by decide) Tryz.ntmps165 (by simp) rfl (by simp only[au,Nat.reduceAdd];rfl) fun C R' hR hC hcl hB=>?_;have X:=aO;have hC':=congrArg List.length hC
 refine A4 0 1 rfl ?_
 (refine run ?_;with_reducible repeat' first|exact trivial|(apply af.mk<;>intro hb)|apply ax.mk)
 refine nZ aF (σ:=List aI) (ξ:=aI) (fun s=>H++[.cells s.length 1 (s.map .str),.cells 0 1 [.sl H.length s.length 0 s.length]]) (H.length+2) (fun s=>by simp) []
  [(2,.ptr (H.length+1) 0 0 0),(6,.fn (.func 145) [] [.ptr pb 0 0 0])] (fun x=>[.str x]) (fun s x=>s.length<l.length) (fun s x=>s++[x]) (fun s=>s.Perm l)
  (fun x=>[(7,.str x),(2,.ptr (H.length+1) 0 0 0),(6,.fn (.func 145) [] [.ptr pb 0 0 0])]) rfl rfl (fun x=>rfl) (fun x=>rfl) ?_ ?_ ?_ ?_
 ·exact Wk.sub (by simp[bR,look])
 ·intro G' LO hGl hLO hy
  have:=Dj G' (by unfold aw;rw[hGl];exact hG) (H.length+2) pb (H.length+3) bm clk born l vs hlb hlv hnd (fun s=>(H++[.cells s.length 1 (s.map .str),.cells 0 1 [.sl H.length s.length 0 s.length]])++[LO]) (fun s=>by simp) (by omega) hll
   (fun s L=>by simp only[List.append_assoc];rw[List.getElem?_append_left hpl];exact hpb) hvs (fun hc s=>by
    simp only[List.append_assoc] at hc ⊢
    refine pR hc (by simp) (fun b hb=>?_)
    simp only[List.cons_append,List.nil_append,List.mem_cons,List.not_mem_nil,or_false] at hb
    rcases hb with rfl|rfl|rfl
    ·exact cm _ _
    ·simp[az.under,SV.aB,SV.under]
    ·simpa using hLO) (fun s x X hs=>by
     have:=hy s x X hs
     simpa only[List.append_assoc,List.cons_append,List.nil_append] using this)
  exact this.mono fun r H' ⟨s,h1,h2⟩=>⟨s,h1,h2⟩
 ·intro G' C' ρ' s x Y LO LB K1 K hGl hB' hCH hcl' hLO hLB hs hK1 hK
  have X:=aO
  have hG':aw G':=by unfold aw;rw[hGl];exact hG
  simp only[List.append_assoc,List.cons_append,List.nil_append] at hcl' hCH ⊢
  (refine run ?_;with_reducible repeat' first|exact trivial|(apply af.mk<;>intro hb)|apply ax.mk)
  refine hK1 _ _ (by simp[List.getElem?_append_right]) ?_
  simp only[cq,List.set_cons_succ,List.set_cons_zero]
  (refine run ?_;with_reducible repeat' first|exact trivial|(apply af.mk<;>intro hb)|apply ax.mk)
  refine hK _ _ ?_
  simp only[List.append_assoc,List.cons_append,List.nil_append,List.length_append,List.length_cons,List.length_nil,List.map_append,List.map_cons,List.map_nil,Nat.zero_add]
  exact Wk.sub trivial
 ·intro s LO hs hLO
  simp only[List.append_assoc,List.cons_append,List.nil_append]
  (refine run ?_;with_reducible repeat' first|exact trivial|(apply af.mk<;>intro hb)|apply ax.mk)
  refine jv [(H.length,0)] (.sl H.length 0 0 s.length) [.cells 0 1 (s.map .str)] hR hC' hcl ⟨s,hs,rfl,rfl⟩
theorem yu (G:Gl) (hG:aw G) (pb bm clk:Nat) (born:List Nat) (l:List aI) (vs:List SV) (hlb:born.length=l.length) (hlv:vs.length=l.length) (hnd:born.Nodup) (hll:l.length<1099511627776) (H:List az)
 (hpb:H[pb]? =some (.cells 0 1 [.fI bm clk born none (l.map .str) vs])) (hvs:∀ n,SV.aB n vs=true):
 ag Tryz.prog G 144 [.fn (.func 145) [] [.ptr pb 0 0 0]] H (fun r H'=>∃ s:List aI,s.Perm l∧H'=H++[.cells 0 1 (s.map .str)]∧r= .sl H.length 0 0 s.length):=by
 refine ag.aK TB [] aF _ Tryz.func144 rfl (by decide) Tryz.ntmps144 (by simp) rfl (by simp only[au,Nat.reduceAdd];rfl) fun C R' hR hC hcl hB=>?_;have X:=aO;have hC':=congrArg List.length hC
 (refine run ?_;with_reducible repeat' first|exact trivial|(apply af.mk<;>intro hb)|apply ax.mk)
 refine bh (uH G hG pb bm clk born l vs hlb hlv hnd hll H hpb hvs) ?_
 rintro r H' ⟨s,hs,rfl,rfl⟩
 (refine run ?_;with_reducible repeat' first|exact trivial|(apply af.mk<;>intro hb)|apply ax.mk)
 exact jv [(H.length,0)] (.sl H.length 0 0 s.length) [.cells 0 1 (s.map .str)] hR hC' hcl ⟨s,hs,rfl,rfl⟩
def eC (l:List aI):List aI:=l.mergeSort fun x y=>decide (x≤y)
theorem gm (l:List aI):(eC l).Perm l:=List.mergeSort_perm l _
theorem eP (l:List aI):(eC l).length=l.length:=(gm l).length_eq
theorem xU {s l:List aI} (h:s.Perm l):eC s=eC l:=Go.mergeSort_of_perm h
theorem ur (G:Gl) (id g:Nat) (l:List aI) (H:List az) (hH:H[id]? =some (.cells g 1 (l.map .str))) (hl:l.length<4611686018427387904):
 ag Tryz.prog G 34 [.sl id g 0 l.length] H (fun r H'=>H'=H.set id (.cells g 1 ((eC l).map .str))∧r= .tuple []):=
 ag.FC encStr .str (fun s=>s.length≤maxLen) (fun c x v=>xG c x v) (fun _=>rfl) (fun x y=>decide (x≤y)) ⟨_,Tryz.func34,by decide,rfl⟩
  (fun eS off cap zs w h1 h2 h3=>Tryz.slices_Sort_string eS off cap zs w h1 h2 h3) (fun p cap w=>Tryz.slices_Sort_string_none p cap w) id g l H hH hl
theorem BF (G:Gl) (hG:aw G) (pb bm clk:Nat) (born:List Nat) (l:List aI) (vs:List SV) (hlb:born.length=l.length) (hlv:vs.length=l.length) (hnd:born.Nodup) (hll:l.length<1099511627776) (H:List az)
 (hpb:H[pb]? =some (.cells 0 1 [.fI bm clk born none (l.map .str) vs])) (hvs:∀ n,SV.aB n vs=true):
 ag Tryz.prog G 106 [.fn (.func 145) [] [.ptr pb 0 0 0]] H (fun r H'=>H'=H++[.cells 0 1 ((eC l).map .str)]∧r= .sl H.length 0 0 l.length):=by
 refine ag.aK TB [] aF _ Tryz.func106 rfl (by decide) Tryz.ntmps106 (by simp) rfl (by simp only[au,Nat.reduceAdd];rfl) fun C R' hR hC hcl hB=>?_;have X:=aO;have hC':=congrArg List.length hC
 (refine run ?_;with_reducible repeat' first|exact trivial|(apply af.mk<;>intro hb)|apply ax.mk)
 refine bh (yu G hG pb bm clk born l vs hlb hlv hnd hll H hpb hvs) ?_
 rintro r H' ⟨s,hs,rfl,rfl⟩
 (refine run ?_;with_reducible repeat' first|exact trivial|(apply af.mk<;>intro hb)|apply ax.mk)
 have hsl:=hs.length_eq
 refine bh (ur G H.length 0 s _ (by simp) (by omega)) ?_
 rintro r H' ⟨rfl,rfl⟩
 rw[xU hs,hsl]
 simp only[dB,List.set_cons_zero]
 (refine run ?_;with_reducible repeat' first|exact trivial|(apply af.mk<;>intro hb)|apply ax.mk)
 exact jv [(H.length,0)] (.sl H.length 0 0 l.length) [.cells 0 1 ((eC l).map .str)] hR hC' hcl ⟨rfl,rfl⟩
theorem Ft (G:Gl) (hG:aw G) (bm clk:Nat) (born:List Nat) (l:List aI) (vs:List SV) (hvs:∀ n,SV.aB n vs=true) (H:List az):
 ag Tryz.prog G 107 [.fI bm clk born none (l.map .str) vs] H (fun r H'=>H'=H++[.cells 0 1 [.fI bm clk born none (l.map .str) vs]]∧r= .fn (.func 145) [] [.ptr H.length 0 0 0]):=by
 refine ag.aK TB [] aF _ Tryz.func107 rfl (by decide) Tryz.ntmps107 (by simp) rfl (by simp only[au,Nat.reduceAdd];rfl) fun C R' hR hC hcl hB=>?_;have X:=aO;have hC':=congrArg List.length hC
 have hks:∀ n,SV.aB n (l.map SV.str)=true:=fun n=>cm n l
 (refine run ?_;with_reducible repeat' first|exact trivial|(apply af.mk<;>intro hb)|apply ax.mk)
 refine jv [(H.length,0)] (.fn (.func 145) [] [.ptr H.length 0 0 0]) [.cells 0 1 [.fI bm clk born none (l.map .str) vs]] hR hC' hcl ⟨rfl,rfl⟩ (.c (by exact dL) (Nat.le_refl _) (Nat.zero_le _) (de.same ?_) .nil) (by simp) (.fn _ _ _ _ _ .nil (.cons _ _ _ _ (bV.kp 0 rfl (by exact dL) (Nat.le_refl _) rfl rfl) .nil))
 simp only[List.drop_zero,SV.aB,SV.under,hks,hvs,Bool.and_self]
theorem pF (e:Ex):((aR e).map fun p=>p.1.wt).sum<e.wt:=by
 obtain⟨kd,nm,nn,op,names,ad,binds,alts⟩:=e
 have h1:∀ l:List Ex,(l.map fun x=>x.wt).sum=bt l:=fun l=>by
  induction l with
  |nil=>rfl
  |cons x r ih=>simp only[List.map_cons,List.sum_cons,bt,ih]
 have h2:∀ l:List Bd,(l.map fun b=>b.e.wt).sum≤aW l:=fun l=>by
  induction l with
  |nil=>exact Nat.le_refl _
  |cons x r ih=>simp only[List.map_cons,List.sum_cons,aW];have:=x.cZ;omega
 have h3:∀ l:List Al,(l.map fun b=>b.body.wt).sum≤cp l:=fun l=>by
  induction l with
  |nil=>exact Nat.le_refl _
  |cons x r ih=>simp only[List.map_cons,List.sum_cons,cp];have:=x.cZ;omega
 have:=h1 ad;have:=h2 binds;have:=h3 alts
 simp only[aR,List.map_append,List.map_map,Function.comp_def,List.sum_append,Ex.wt]
 omega
theorem DT (l:List aI) (s:aI):(j9 l s).length≤l.length+1:=by
 unfold j9
 split<;>simp
theorem gS:∀ (m:Nat) (e:Ex) (st:BO),(dN m e st).2.length≤st.2.length+e.wt
 |0,e,st=>by simp[dN]
 |m+1,e,st=>by
  rw[dN]
  have hp:=e.bz
  split
  ·split
   ·have:=DT st.2 e.name;simp only;omega
   ·omega
  ·have hs:=pF e
   generalize aR e=l at hs
   have key:∀ (l:List (Ex×List aI)) (st:BO),(l.foldl (fo (dN m)) st).2.length≤st.2.length+(l.map fun p=>p.1.wt).sum:=fun l=>by
    induction l with
    |nil=>intro st;exact Nat.le_refl _
    |cons p l ih=>
     intro st
     rw[List.foldl_cons]
     have h1:=ih (fo (dN m) st p)
     have h2:=gS m p.1 (jx st.1 p.2,st.2)
     simp only[List.map_cons,List.sum_cons]
     have e:(fo (dN m) st p).2.length=(dN m p.1 (jx st.1 p.2,st.2)).2.length:=rfl
     rw[e] at h1
     simp only at h2
     omega
   have:=key l st
   omega
theorem zc {l:List aI} (h:l.Nodup) (s:aI):(j9 l s).Nodup:=by
 unfold j9
 split
 ·exact h
 ·rename_i hs
  exact List.nodup_append.2 ⟨h,by simp,by simp;exact fun a ha e=>hs (e ▸ ha)⟩
def cz (e:Ex):List aI:=eC (dN e.wt e ([],[])).2
theorem zR (G:Gl) (hG:aw G) (e:Ex) (H:List az) (hw:e.wt<549755813888):ag Tryz.prog G 57 [e.sv] H (fun r H'=>H'=H++[.cells 0 1 ((cz e).map .str)]∧r= .sl H.length 0 0 (cz e).length):=by
 refine ag.aK TB [] aF _ Tryz.func57 rfl (by decide) Tryz.ntmps57 (by simp) rfl (by simp only[au,Nat.reduceAdd];rfl) fun C R' hR hC hcl hB=>?_;have X:=aO;have hC':=congrArg List.length hC
 have hcall:=nA G hG e.wt e (Nat.le_refl _) hw (H++[.cells 0 8 [e.sv],.map none [],.map none []]) (H.length+2) (H.length+1) ([],[]) (by simp[qk]) (by simp[gT]) (by omega) (fun s=>by simp only[cK];omega)
 have hlen:=gS e.wt e ([],[])
 have hfl:(cz e).length=(dN e.wt e ([],[])).2.length:=eP _
 generalize hst:dN e.wt e ([],[])=st at hcall hlen hfl
 (refine run ?_;with_reducible repeat' first|exact trivial|(apply af.mk<;>intro hb)|apply ax.mk)
 refine bh hcall ?_
 rintro r H' rfl
 simp only[UH,cq,List.set_cons_succ,List.set_cons_zero]
 refine CY ?_
 refine GN (t:=3) (io:=H.length+1) (kd:=none) (es:=gT st.2) (by exact dL) (by omega) hB rfl (fun bm clk born hb hnd=>?_)
 have e1:(gT st.2).map Prod.fst=st.2.map .str:=by simp[gT]
 have e2:(gT st.2).map Prod.snd=st.2.map fun _=> .bool true:=by simp[gT]
 have e3:(gT st.2).length=st.2.length:=by simp[gT]
 rw[e1,e2]
 rw[e3] at hb
 simp only[cq,List.set_cons_succ,List.set_cons_zero]
 (refine run ?_;with_reducible repeat' first|exact trivial|(apply af.mk<;>intro hb)|apply ax.mk)
 refine bh (Ft G hG bm clk born st.2 _ (fun n=>SV.bX fun _ _=>rfl) _) ?_
 rintro r H' ⟨rfl,rfl⟩
 simp only[List.append_assoc,List.cons_append,List.nil_append,List.length_append,List.length_cons,List.length_nil,List.length_set,X,Nat.reduceAdd]
 (refine run ?_;with_reducible repeat' first|exact trivial|(apply af.mk<;>intro hb)|apply ax.mk)
 refine bh (BF G hG (H.length+3) bm clk born st.2 (st.2.map fun _=> .bool true) hb (by simp) hnd (by simp only at hlen;simp at hlen;omega) _ (by rw[bJ];rfl) (fun n=>SV.bX fun _ _=>rfl)) ?_
 rintro r H' ⟨rfl,rfl⟩
 simp only[List.append_assoc,List.cons_append,List.nil_append,List.length_append,List.length_cons,List.length_nil,List.length_set,X,Nat.reduceAdd]
 (refine run ?_;with_reducible repeat' first|exact trivial|(apply af.mk<;>intro hb)|apply ax.mk)
 have e4:eC st.2=cz e:=by rw[cz,hst]
 rw[e4,← hfl]
 exact jv [(H.length+4,0)] (.sl H.length 0 0 (cz e).length) [.cells 0 1 ((cz e).map .str)] hR hC' hcl ⟨rfl,rfl⟩
theorem zK (G:Gl) (hG:aw G) (e:Ex) (hw:e.wt<549755813888) (fv:SV) (Hs:Nat→List az) (n0:Nat) (hlen:∀ i,(Hs i).length=n0) (hfu:fv.under n0=true) (hcls:closed (Hs 0)→∀ i,closed (Hs i))
 (hy:∀ i p X,e.parts[i]? =some p→bL Tryz.prog G fv [p.sv] (Hs i++X) (fun r H'=>H'=Hs (i+1)++X∧r= .bool true)):
 ag Tryz.prog G 77 [e.sv,fv] (Hs 0) (fun r H'=>H'=Hs e.parts.length∧r= .bool true):=by
 obtain⟨kd,nm,nn,op,names,ad,binds,alts⟩:=e
 have hle:=Ex.cY kd nm nn op names ad binds alts
 rw[Ex.dn] at hy ⊢
 have hpl:(ad++(binds.map Bd.e++alts.map Al.body)).length=ad.length+binds.length+alts.length:=by simp;omega
 have p1:∀ i (h:i<ad.length),(ad++(binds.map Bd.e++alts.map Al.body))[i]? =some ad[i]:=fun i h=>by
  rw[List.getElem?_append_left h,List.getElem?_eq_getElem h]
 have p2:∀ i (h:i<binds.length),(ad++(binds.map Bd.e++alts.map Al.body))[ad.length+i]? =some binds[i].e:=fun i h=>by
  rw[List.getElem?_append_right (by omega),Nat.add_sub_cancel_left,List.getElem?_append_left (by simpa using h),List.getElem?_map,List.getElem?_eq_getElem h];rfl
 have p3:∀ i (h:i<alts.length),(ad++(binds.map Bd.e++alts.map Al.body))[ad.length+(binds.length+i)]? =some alts[i].body:=fun i h=>by
  rw[List.getElem?_append_right (by omega),Nat.add_sub_cancel_left,List.getElem?_append_right (by simp),List.length_map,Nat.add_sub_cancel_left,List.getElem?_map,List.getElem?_eq_getElem h];rfl
 refine ag.aK TB [] aF _ Tryz.func77 rfl (by decide) Tryz.ntmps77 (by simp) rfl (by simp only[au,Nat.reduceAdd];rfl) fun C R' hR hC hcl hB=>?_;have X:=aO;have hC':=congrArg List.length hC
 have hcl:=hcls hcl
 have hC':=hC'.trans (hlen 0)
 have X:=Ig Hs n0 hlen
 (refine bP ?_;with_reducible repeat' first|exact trivial|(apply af.mk<;>intro hb)|apply ax.mk)
 refine aC (fun i:Nat=>[(1,fv),(2,.ptr n0 0 0 0),(12,.list 8 (aj ad)),(13,.int .i64 ad.length),(14,.int .i64 i)])
  (fun i=>Hs i++[.cells 0 8 [.agg [.int .i64 kd,.str nm,.int .i64 nn,.int .i64 op,.list 1 (names.map .str),.list 8 (aj ad),.list 9 (ao binds),.list 12 (aA alts)]]]) (fun i=>ad.length - i) (fun i=>i≤ad.length) 0 (Nat.zero_le _) ?_ ?_
 ·exact bB (n0:=n0) [(n0,0)] hG hB hC' (hcl 0)
 rintro K i hi hK
 (refine bP ?_;with_reducible repeat' first|exact trivial|(apply af.mk<;>intro hb)|apply ax.mk)
 ·refine fB (hy i _ _ (p1 i (by omega))) ?_
  rintro r H' ⟨rfl,rfl⟩
  (refine bP ?_;with_reducible repeat' first|exact trivial|(apply af.mk<;>intro hb)|apply ax.mk)
  refine hK _ _ (i+1) (by omega) (by omega) ?_
  exact bB (n0:=n0) [(n0,0)] hG hB hC' (hcl (i+1))
 obtain rfl:i=ad.length:=by omega
 clear hK
 refine aC (fun i:Nat=>[(1,fv),(2,.ptr n0 0 0 0),(24,.list 9 (ao binds)),(25,.int .i64 binds.length),(26,.int .i64 i)])
  (fun i=>Hs (ad.length+i)++[.cells 0 8 [.agg [.int .i64 kd,.str nm,.int .i64 nn,.int .i64 op,.list 1 (names.map .str),.list 8 (aj ad),.list 9 (ao binds),.list 12 (aA alts)]]]) (fun i=>binds.length - i) (fun i=>i≤binds.length) 0 (Nat.zero_le _) ?_ ?_
 ·exact bB (n0:=n0) [(n0,0)] hG hB hC' (hcl _)
 rintro K i hi hK
 (refine bP ?_;with_reducible repeat' first|exact trivial|(apply af.mk<;>intro hb)|apply ax.mk)
 ·refine fB (hy (ad.length+i) _ _ (p2 i (by omega))) ?_
  rintro r H' ⟨rfl,rfl⟩
  (refine bP ?_;with_reducible repeat' first|exact trivial|(apply af.mk<;>intro hb)|apply ax.mk)
  refine hK _ _ (i+1) (by omega) (by omega) ?_
  exact bB (n0:=n0) [(n0,0)] hG hB hC' (hcl _)
 obtain rfl:i=binds.length:=by omega
 clear hK
 refine aC (fun i:Nat=>[(1,fv),(2,.ptr n0 0 0 0),(37,.list 12 (aA alts)),(38,.int .i64 alts.length),(39,.int .i64 i)])
  (fun i=>Hs (ad.length+(binds.length+i))++[.cells 0 8 [.agg [.int .i64 kd,.str nm,.int .i64 nn,.int .i64 op,.list 1 (names.map .str),.list 8 (aj ad),.list 9 (ao binds),.list 12 (aA alts)]]]) (fun i=>alts.length - i) (fun i=>i≤alts.length) 0 (Nat.zero_le _) ?_ ?_
 ·exact bB (n0:=n0) [(n0,0)] hG hB hC' (hcl _)
 rintro K i hi hK
 (refine bP ?_;with_reducible repeat' first|exact trivial|(apply af.mk<;>intro hb)|apply ax.mk)
 ·refine fB (hy (ad.length+(binds.length+i)) _ _ (p3 i (by omega))) ?_
  rintro r H' ⟨rfl,rfl⟩
  (refine bP ?_;with_reducible repeat' first|exact trivial|(apply af.mk<;>intro hb)|apply ax.mk)
  refine hK _ _ (i+1) (by omega) (by omega) ?_
  exact bB (n0:=n0) [(n0,0)] hG hB hC' (hcl _)
 obtain rfl:i=alts.length:=by omega
 refine Fin.dx (n0:=n0) hR (hlen _) hC' (hcl _) (.same _ rfl) ⟨?_,rfl⟩
 rw[hpl,Nat.add_assoc]
def vJ (n:Int):az:= .cells 0 1 [.int .i64 n]
theorem Eb (G:Gl) (hG:aw G) (x:Ex) (H:List az) (n:Int) (nb:Nat) (h1:H[nb]? =some (vJ n)) (h2:0≤n) (h3:n+1<4611686018427387904):
 ag Tryz.prog G 76 [x.sv,.ptr nb 0 0 0] H (fun r H'=>H'=H.set nb (vJ (n+1))∧r= .bool true):=by
 have hlt:nb<H.length:=(List.getElem?_eq_some_iff.1 h1).1
 refine ag.aK TB [] aF _ Tryz.func76 rfl (by decide) Tryz.ntmps76 (by simp) rfl (by simp only[au,Nat.reduceAdd];rfl) fun C R' hR hC hcl hB=>?_;have X:=aO;have hC':=congrArg List.length hC
 have X:=h1
 unfold vJ at X
 (refine run ?_;with_reducible repeat' first|exact trivial|(apply af.mk<;>intro hb)|apply ax.mk)
 exact Fin.dx (n0:=H.length) hR (by simp) hC' (hcl.set rfl) (.same _ rfl) ⟨rfl,rfl⟩
theorem qF {α:Type} (f:List α→Nat) (g:α→Nat) (h0:f []=0) (h1:∀ x l,f (x::l)=g x+f l):∀ l,f l=(l.map g).sum
 |[]=>by simp[h0]
 |x::l=>by rw[h1,qF f g h0 h1 l];simp
theorem wP (l:List Ex):mz l=(l.map Ex.size).sum:=qF mz _ (by simp[mz]) (fun x l=>by simp only[mz]) l
theorem vV (l:List Bd):ml l=((l.map Bd.e).map Ex.size).sum:=by
 rw[List.map_map];exact qF ml _ (by simp[ml]) (fun x l=>by cases x;simp only[ml,Bd.size,Function.comp_def,Bd.e]) l
theorem vO (l:List Al):mi l=((l.map Al.body).map Ex.size).sum:=by
 rw[List.map_map];exact qF mi _ (by simp[mi]) (fun x l=>by cases x;simp only[mi,Al.size,Function.comp_def,Al.body]) l
theorem Ex.nz (e:Ex):e.size=1+(e.parts.map Ex.size).sum:=by
 obtain⟨kd,nm,nn,op,names,ad,binds,alts⟩:=e
 rw[Ex.dn,Ex.size,wP,vV,vO,List.map_append,List.map_append,List.sum_append,List.sum_append]
 omega
theorem mf {l:List Nat}:∀ (i:Nat),(l.take i).sum≤l.sum:=by
 induction l with
 |nil=>intro i;simp
 |cons x r ih=>
  intro i
  cases i with
  |zero=>simp
  |succ i=>simp only[List.take_succ_cons,List.sum_cons];have:=ih i;omega
def HJ (G:Gl) (m:Nat):Prop:=∀ (e:Ex) (H:List az) (n:Int) (nb:Nat),e.wt≤m→H[nb]? =some (vJ n)→0≤n→n+e.size<4611686018427387904→
 ag Tryz.prog G 32 [e.sv,.fn (.func 76) [] [.ptr nb 0 0 0]] H (fun r H'=>H'=H.set nb (vJ (n+e.size))∧r= .bool true)
theorem ES (G:Gl) (hG:aw G) (m:Nat) (hrec:HJ G m) (p:Ex) (H:List az) (n:Int) (nb ib:Nat) (hp:p.wt≤m) (h1:H[nb]? =some (vJ n)) (hib:H[ib]? =some (.cells 0 1 [.fn (.func 76) [] [.ptr nb 0 0 0]])) (h2:0≤n) (h3:n+p.size<4611686018427387904):
 ag Tryz.prog G 80 [p.sv,.ptr ib 0 0 0] H (fun r H'=>H'=H.set nb (vJ (n+p.size))∧r= .bool true):=by
 have hlt:nb<H.length:=(List.getElem?_eq_some_iff.1 h1).1
 have hlt2:ib<H.length:=(List.getElem?_eq_some_iff.1 hib).1
 refine ag.aK TB [] aF _ Tryz.func80 rfl (by decide) Tryz.ntmps80 (by simp) rfl (by simp only[au,Nat.reduceAdd];rfl) fun C R' hR hC hcl hB=>?_;have X:=aO;have hC':=congrArg List.length hC
 have X:=And.intro h1 hib
 (refine run ?_;with_reducible repeat' first|exact trivial|(apply af.mk<;>intro hb)|apply ax.mk)
 refine bh (hrec p _ n nb hp (by rw[du hlt];exact h1) h2 h3) ?_
 rintro r H' ⟨rfl,rfl⟩
 rw[fV hlt]
 (refine run ?_;with_reducible repeat' first|exact trivial|(apply af.mk<;>intro hb)|apply ax.mk)
 exact Fin.dx (n0:=H.length) hR (by simp) hC' (hcl.set rfl) (.same _ rfl) ⟨rfl,rfl⟩
theorem B7 (G:Gl) (hG:aw G):∀ m,m<549755813888→HJ G m
 |0,_,e,_,_,_,h,_,_,_=>absurd e.bz (by omega)
 |m+1,hm2,e,H,n,nb,hm,h1,h2,h3=>by
  have hlt:nb<H.length:=(List.getElem?_eq_some_iff.1 h1).1
  have hsz:=e.nz
  have hrec:=B7 G hG m (by omega)
  have hs0:=e.size_pos
  refine ag.aK TB [] aF _ Tryz.func32 rfl (by decide) Tryz.ntmps32 (by simp) rfl (by simp only[au,Nat.reduceAdd];rfl) fun C R' hR hC hcl hB=>?_;have X:=aO;have hC':=congrArg List.length hC
  (refine run ?_;with_reducible repeat' first|exact trivial|(apply af.mk<;>intro hb)|apply ax.mk)
  refine fB (bL.of (first:=[]) (args:=[e.sv]) (cap:=[.ptr nb 0 0 0]) (Eb G hG e _ n nb (by rw[du hlt];exact h1) h2 (by omega))) ?_
  rintro r H' ⟨rfl,rfl⟩
  rw[fV hlt]
  (refine run ?_;with_reducible repeat' first|exact trivial|(apply af.mk<;>intro hb)|apply ax.mk)
  have hw:∀ i,n+1+(((e.parts.take i).map Ex.size).sum:Nat)≤n+e.size:=fun i=>by
   have:=mf (l:=e.parts.map Ex.size) i
   rw[← List.map_take] at this
   omega
  have hk:∀ (i:Nat) (L:List az),((H.set nb (vJ (n+1+(((e.parts.take i).map Ex.size).sum:Nat)))++L))[nb]? =some (vJ (n+1+(((e.parts.take i).map Ex.size).sum:Nat))):=fun i L=>jO hlt
  have heach:=zK G hG e (by omega) (.fn (.func 80) [] [.ptr (H.length+1) 0 0 0]) (fun i=>H.set nb (vJ (n+1+(((e.parts.take i).map Ex.size).sum:Nat)))++[.cells 0 8 [.agg e.cells],.cells 0 1 [.fn (.func 76) [] [.ptr nb 0 0 0]]]) (H.length+2) (fun i=>by simp) (by simp[SV.under,SV.aB])
   (fun h i=>by have:=h.set (id:=nb) (b:=vJ (n+1+(((e.parts.take i).map Ex.size).sum:Nat))) rfl;rwa[iL hlt] at this) (fun i p X hp=>by
    have hpw:=Ex.cU (List.mem_of_getElem? hp)
    have hlp:=(List.getElem?_eq_some_iff.1 hp)
    have hnx:((e.parts.take (i+1)).map Ex.size).sum=((e.parts.take i).map Ex.size).sum+p.size:=by
     rw[List.take_succ_eq_append_getElem hlp.1,hlp.2];simp
    have hwi:=hw (i+1)
    refine bL.of (first:=[]) (args:=[p.sv]) (cap:=[.ptr (H.length+1) 0 0 0]) ((ES G hG m hrec p _ (n+1+(((e.parts.take i).map Ex.size).sum:Nat)) nb (H.length+1) (by omega) (by rw[List.append_assoc];exact hk i _) (by rw[List.append_assoc];simp) (by omega) (by omega)).mono ?_)
    rintro r H' ⟨rfl,rfl⟩
    refine⟨?_,rfl⟩
    rw[List.append_assoc,iL hlt,hnx,List.append_assoc]
    congr 3
    omega)
  rw[show n+1+((((e.parts.take 0).map Ex.size).sum:Nat):Int)=n+1 by simp] at heach
  refine bh heach ?_
  rintro r H' ⟨rfl,rfl⟩
  rw[List.take_length,show n+1+(((e.parts.map Ex.size).sum:Nat):Int)=n+e.size by omega]
  (refine run ?_;with_reducible repeat' first|exact trivial|(apply af.mk<;>intro hb)|apply ax.mk)
  exact Fin.dx (n0:=H.length) hR (by simp) hC' (hcl.set rfl) (.same _ rfl) ⟨rfl,rfl⟩
theorem FQ (G:Gl) (hG:aw G) (e:Ex) (H:List az) (hw:e.wt<549755813887) (hs:e.size<4611686018427387904):ag Tryz.prog G 27 [e.sv] H (fun r H'=>H'=H∧r= .int .i64 e.size):=by
 refine ag.aK TB [] aF _ Tryz.func27 rfl (by decide) Tryz.ntmps27 (by simp) rfl (by simp only[au,Nat.reduceAdd];rfl) fun C R' hR hC hcl hB=>?_;have X:=aO;have hC':=congrArg List.length hC
 (refine run ?_;with_reducible repeat' first|exact trivial|(apply af.mk<;>intro hb)|apply ax.mk)
 refine bh (B7 G hG e.wt (by omega) e _ 0 (H.length+1) (Nat.le_refl _) (by rw[bJ];rfl) (by omega) (by omega)) ?_
 rintro r H' ⟨rfl,rfl⟩
 rw[cq,vJ,Int.zero_add]
 simp only[List.set_cons_succ,List.set_cons_zero]
 (refine run ?_;with_reducible repeat' first|exact trivial|(apply af.mk<;>intro hb)|apply ax.mk)
 exact Fin.dx (n0:=H.length) hR (by simp) hC' hcl (.same _ rfl) ⟨rfl,rfl⟩
def BR:Nat→Ex→Prop
 |0,_=>True
 |m+1,e=>(e.kind≠6→e.alts=[])∧(e.kind≠5→e.binds=[])∧∀ p∈e.parts,BR m p
end Go.Proofs.YtedejleokilohaaGreatDoor
