/- A part of the proof: SwA, SwB, SwC, SwD. Names and spaces are cut short by program. -/
import Derived.Test.YtehfihnfeakmaaaGreatDoorMc
import Derived.OrdersIn
set_option linter.unusedSimpArgs false
set_option linter.unusedVariables false
set_option maxRecDepth 10000
set_option maxHeartbeats 4000000
namespace Go.Proofs.YtehfihnfeakmaaaGreatDoor
open Go
section
def ob {α β:Type} (x:Option α) (f:α→Option β):Option β:=x.bind f
theorem lU {α β:Type} (a:α) (f:α→Option β):ob (some a) f=f a:=rfl
@[congr] theorem I3 {α β:Type} {x y:Option α} {f:α→Option β} (h:x=y):ob x f=ob y f:=by rw[h]
theorem aJ {α β:Type} {x:Option α} {f:α→Option β} {b:β} (h:ob x f=some b):∃ a,x=some a∧f a=some b:=by
 cases x with
 |none=>cases h
 |some a=>exact⟨a,rfl,h⟩
def dI {α:Type} (p:Prop) [Decidable p] (x:Option α):Option α:=if p then x else none
theorem br {α:Type} {p:Prop} [Decidable p] {x:Option α} {b:α} (h:dI p x=some b):p∧x=some b:=by
 unfold dI at h
 split at h
 ·exact⟨‹_›,h⟩
 ·cases h
theorem CK {α:Type} {p:Prop} [Decidable p] (h:p) (x:Option α):dI p x=x:=if_pos h
def bb {α:Type} (b:Bool) (x y:Option α):Option α:=match b with
 |true=>x
 |false=>y
theorem uG {α:Type} (x y:Option α):bb true x y=x:=rfl
theorem qh {α:Type} (x y:Option α):bb false x y=y:=rfl
@[congr] theorem IA {α:Type} {b b':Bool} {x y:Option α} (h:b=b'):bb b x y=bb b' x y:=by rw[h]
def zp:Operand→Bool
 | .const (.slice none 0 0)=>true
 | .const (.map none)=>true
 | .const (.pointer none)=>true
 |_=>false
def xL (H:List ax) (y:Operand):List ax:=match zp y with
 |true=>H
 |false=>[]
theorem xM {H:List ax} {y:Operand} {id g:Nat} {q:Nat×List SV} (h:cL (xL H y) id g=some q):cL H id g=some q:=by
 unfold xL at h
 split at h
 ·exact h
 ·simp[cL] at h
theorem DS {H:List ax} {y:Operand} {id:Nat} {q:Unit} (h:iM (xL H y) id=some q):iM H id=some q:=by
 unfold xL at h
 split at h
 ·exact h
 ·simp[iM] at h
def FI (b:Bool) (op:BinOp) (x:SV):Option SV:=
 match x with
 | .jI z=>(match op with
  | .eql=>dI (b=true) (some (.bool z))
  | .neq=>dI (b=true) (some (.bool (!z)))
  |_=>none)
 |_=>none
theorem FJ {b:Bool} {op:BinOp} {x v:SV} {k:SV→Prop} (h:FI b op x=some v) (hk:k v):qY b op x k:=by
 unfold FI at h
 split at h
 ·split at h
  ·obtain⟨h1,h2⟩:=br h;cases h2;exact⟨h1,hk⟩
  ·obtain⟨h1,h2⟩:=br h;cases h2;exact⟨h1,hk⟩
  ·cases h
 ·cases h
def E7 (H:List ax) (tb:Nat) (op:BinOp) (x y:SV):Option SV:=
 match x,y with
 | .int i a,.int j b=>
  match op with
  | .shl=>dI (0≤b) (some (.int i (i.wrap (a*2 ^ (min b.toNat i.bits)))))
  | .shr=>dI (0≤b) (some (.int i (a.fdiv (2 ^ (min b.toNat i.bits)))))
  | .add=>dI (i=j) (some (.int i (i.wrap (a+b))))
  | .sub=>dI (i=j) (some (.int i (i.wrap (a - b))))
  | .mul=>dI (i=j) (some (.int i (i.wrap (a*b))))
  | .quo=>dI (i=j∧b≠0) (some (.int i (i.wrap (a.tdiv b))))
  | .rem=>dI (i=j∧b≠0) (some (.int i (a.tmod b)))
  | .and=>dI (i=j) (ob (ko .and i a b) fun n=>some (.int i n))
  | .or=>dI (i=j) (ob (ko .or i a b) fun n=>some (.int i n))
  | .xor=>dI (i=j) (ob (ko .xor i a b) fun n=>some (.int i n))
  | .andNot=>dI (i=j) (ob (ko .andNot i a b) fun n=>some (.int i n))
  | .eql=>dI (i=j) (some (.bool (decide (a=b))))
  | .neq=>dI (i=j) (some (.bool (decide (a≠b))))
  | .lss=>dI (i=j) (some (.bool (decide (a<b))))
  | .leq=>dI (i=j) (some (.bool (decide (a≤b))))
  | .gtr=>dI (i=j) (some (.bool (decide (b<a))))
  | .geq=>dI (i=j) (some (.bool (decide (b≤a))))
 | .str a,.str b=>
  match op with
  | .add=>dI (a.length+b.length≤maxLen) (some (.str (a++b)))
  | .eql=>some (.bool (decide (a=b)))
  | .neq=>some (.bool (decide (a≠b)))
  | .lss=>some (.bool (dm a b))
  | .gtr=>some (.bool (!(dm a b||decide (a=b))))
  | .leq=>some (.bool (dm a b||decide (a=b)))
  | .geq=>some (.bool (!dm a b))
  |_=>none
 | .bool a,.bool b=>
  match op with
  | .eql=>dI (tb=1) (some (.bool (a==b)))
  | .neq=>dI (tb=1) (some (.bool (!(a==b))))
  |_=>none
 | .nil,.nil=>
  match op with
  | .eql=>dI (tb=2) (some (.bool true))
  | .neq=>dI (tb=2) (some (.bool false))
  |_=>none
 | .list _ (_::_),.nil=>
  match op with
  | .eql=>dI (tb=2) (some (.bool false))
  | .neq=>dI (tb=2) (some (.bool true))
  |_=>none
 | .sl id g _ (_+1),.nil=>
  match op with
  | .eql=>ob (cL H id g) fun _=>dI (tb=2) (some (.bool false))
  | .neq=>ob (cL H id g) fun _=>dI (tb=2) (some (.bool true))
  |_=>none
 | .bu,.bu=>
  match op with
  | .eql=>dI (tb=3) (some (.bool true))
  | .neq=>dI (tb=3) (some (.bool false))
  |_=>none
 | .map id,.bu=>
  match op with
  | .eql=>ob (iM H id) fun _=>dI (tb=3) (some (.bool false))
  | .neq=>ob (iM H id) fun _=>dI (tb=3) (some (.bool true))
  |_=>none
 | .aX,.aX=>
  match op with
  | .eql=>dI (tb=4) (some (.bool true))
  | .neq=>dI (tb=4) (some (.bool false))
  |_=>none
 | .ptr id g _ _,.aX=>
  match op with
  | .eql=>ob (cL H id g) fun _=>dI (tb=4) (some (.bool false))
  | .neq=>ob (cL H id g) fun _=>dI (tb=4) (some (.bool true))
  |_=>none
 | .kC _,.aX=>
  match op with
  | .eql=>dI (tb=4) (some (.bool false))
  | .neq=>dI (tb=4) (some (.bool true))
  |_=>none
 | .agg xs,.agg ys=>
  match op with
  | .eql=>dI (tb=5+dE xs∧dE ys=dE xs) (ob (ot xs ys) fun b=>some (.bool b))
  | .neq=>dI (tb=5+dE xs∧dE ys=dE xs) (ob (ot xs ys) fun b=>some (.bool (!b)))
  |_=>none
 |_,_=>none
theorem E8 {H:List ax} {yo:Operand} {tb:Nat} {op:BinOp} {x y v:SV} {k:SV→Prop} (h:E7 (xL H yo) tb op x y=some v) (hk:k v):dH H tb op x y k:=by
 unfold E7 at h
 split at h
 ·rename_i i a j b
  cases op<;>simp only at h<;>first
   |(cases h;done)
   |(obtain⟨h1,h2⟩:=br h;cases h2;simp only[dH,bV,wA,mz,Bool.not_eq_true',decide_not] at hk ⊢;first
    |exact⟨h1,hk⟩
    |(rw[if_pos h1];exact hk)
    |(rw[if_pos h1.1];exact⟨h1.2,hk⟩))
   |(obtain⟨h1,h2⟩:=br h;obtain⟨n,h3,h4⟩:=aJ h2;cases h4;simp only[dH,if_pos h1,h3,mz];exact hk)
 ·rename_i a b
  cases op<;>simp only at h<;>first
   |(cases h;done)
   |(cases h;simp only[dH,wB,mz,decide_not,bV] at hk ⊢;exact hk)
   |(obtain⟨h1,h2⟩:=br h;cases h2;exact⟨h1,hk⟩)
 ·rename_i a b
  cases op<;>simp only at h<;>first
   |(cases h;done)
   |(obtain⟨h1,h2⟩:=br h;cases h2;exact⟨h1,hk⟩)
 all_goals first
  |(cases h;done)
  |(cases op<;>simp only at h<;>first
   |(cases h;done)
   |(obtain⟨h1,h2⟩:=br h;cases h2;exact⟨h1,hk⟩)
   |(obtain⟨h1,h2⟩:=br h;cases h2;exact⟨h1,(by intro e;cases e),hk⟩)
   |(obtain⟨h1,h2⟩:=br h;obtain⟨b,h3,h4⟩:=aJ h2;cases h4;exact⟨h1,b,h3,hk⟩)
   |(obtain⟨q,h0,h⟩:=aJ h;obtain⟨h1,h2⟩:=br h;cases h2;exact⟨q,xM h0,h1,hk⟩)
   |(obtain⟨q,h0,h⟩:=aJ h;obtain⟨h1,h2⟩:=br h;cases h2;exact⟨q,DS h0,h1,hk⟩)
   |(obtain⟨q,h0,h⟩:=aJ h;obtain⟨h1,h2⟩:=br h;cases h2;exact⟨q,xM h0,h1,(by intro e;cases e),hk⟩))
def Nc (op:UnOp) (x:SV):Option SV:=
 match op,x with
 | .not,.bool b=>some (.bool (!b))
 | .neg,.int i n=>some (.int i (i.wrap (0 - n)))
 |_,_=>none
def HL (H:List ax) (i:TI) (v:SV):Option SV:=
 dI (lS H i.d v=true) (ob (eP H v) fun n=>match i.d with
  | .map _ _=>dI (n≤9223372036854775807) (some (.int .i64 n))
  |_=>some (.int .i64 n))
def gv (b want:Bool) (x:SV):SV:=match b,want with
 |true,true=>x
 |false,false=>x
 |_,_=> .undef
theorem jg (x:SV):gv true true x=x:=rfl
theorem jd (x:SV):gv false false x=x:=rfl
theorem jf (x:SV):gv true false x= .undef:=rfl
theorem je (x:SV):gv false true x= .undef:=rfl
theorem gp (b:Bool) (x:SV):gv b b x=x:=by cases b<;>rfl
theorem HA {b:Bool} (x:SV) (h:b=true):gv b true x=x:=by subst h;rfl
theorem Hz {b:Bool} (x:SV) (h:b=false):gv b false x=x:=by subst h;rfl
theorem Dk {a:Prop} {inst:Decidable a} (x:SV) (h:a):gv (decide a) true x=x:=by rw[decide_eq_true h];rfl
theorem Dj {a:Prop} {inst:Decidable a} (x:SV) (h:¬ a):gv (decide a) false x=x:=by rw[decide_eq_false h];rfl
theorem HC {a:Prop} {inst:Decidable a} (x:SV) (h:¬ a):gv (decide a) true x= .undef:=by rw[decide_eq_false h];rfl
theorem HB {a:Prop} {inst:Decidable a} (x:SV) (h:a):gv (decide a) false x= .undef:=by rw[decide_eq_true h];rfl
theorem IS {b:Bool} (x:SV) (h:b=false):gv b true x= .undef:=by subst h;rfl
theorem IQ {b:Bool} (x:SV) (h:b=true):gv b false x= .undef:=by subst h;rfl
def pk (b:Bool) (x y:SV):SV:=match b with
 |true=>x
 |false=>y
theorem eJ (x y:SV):pk true x y=x:=rfl
theorem dS (x y:SV):pk false x y=y:=rfl
theorem HY (b:Bool) (x y:SV):pk b (gv b true x) y=pk b x y:=by cases b<;>rfl
theorem HX (b:Bool) (x y:SV):pk b x (gv b false y)=pk b x y:=by cases b<;>rfl
theorem KY (b q:Bool):pk b (.bool true) (.bool q)= .bool (b||q):=by cases b<;>rfl
theorem KX (b p:Bool):pk b (.bool p) (.bool false)= .bool (b&&p):=by cases b<;>rfl
theorem HW (b p:Bool):pk b (.bool p) (.bool true)= .bool (!b||p):=by cases b<;>rfl
theorem HV (b q:Bool):pk b (.bool false) (.bool q)= .bool (!b&&q):=by cases b<;>rfl
def qv (G:Gl) (T:aT) (own:List Nat) (env:Env) (H:List ax) (dst:Option Nat) (ty:Nat):Op→Option SV
 | .move x=>ev G env x
 | .assign x=>bb (oD dst own) (ob (elemOf T ty) fun _=>ob (ev G env x) fun v=>match v with
  | .nil=>none
  |v=>some v) (ev G env x)
 | .pick c x y=>ob (ev G env c) fun v=>ob (Hg v) fun g=>ob (ev G env x) fun X=>ob (ev G env y) fun Y=>some (pk g X Y)
 | .build t parts=>ob (T.get t) fun i=>dI (iw T i.d=true∧i.zero.isAgg=true) (ob (partsOf T i.d G env parts.toList) fun ps=>lz i.zero ps)
 | .buildSlice t len parts=>ob (elemOf T t) fun e=>dI (((len*e.2.size≤16777216∧0<e.2.size)∧fits e.2 e.2.zero=true)∧(len==0||oD dst own)=false) (ob (cW e.2 G env (List.replicate len e.2.zero) parts.toList) fun xs=>
  some (.list e.2.size xs))
 | .load t x=>ob (T.get t) fun i=>ob (ev G env x) fun p=>lr H i p
 | .nilCheck x=>ob (ev G env x) fun v=>dI (ml H v=true) (some v)
 | .binOp op t x y _=>ob (ev G env x) fun a=>ob (ev G env y) fun b=>bb (mG y) (FI (tI T t) op a) (E7 (xL H y) (eZ T t) op a b)
 | .unOp op _ x=>ob (ev G env x) fun a=>Nc op a
 | .convert st dt x=>ob (T.get st) fun si=>ob (T.get dt) fun i=>ob (ev G env x) fun v=>match i.d,v with
  | .int j,.int _ n=>some (.int j (j.wrap n))
  | .str,.str s=>some (.str s)
  | .str,v=>dI (lZ T si.d=true∧kc H 1 v=true) (ob (dJ H v) fun xs=>ob (strOf xs) fun s=>some (.str s))
  |_,_=>none
 | .makeFunc fn first cap=>ob (jb G env first.toList) fun xs=>ob (jb G env cap.toList) fun ys=>some (.fn fn xs ys)
 | .slice t x lo hi none=>ob (T.get t) fun i=>ob (ev G env x) fun v=>ob (eP H v) fun n=>ob (cr G env lo 0) fun l=>ob (cr G env hi n) fun h=>
  dI (0≤l∧l≤h∧(h≤(n:Int)∨h≤(qo H v:Int))) (ob (qB l.toNat h.toNat v) fun y=>match i.d with
   | .slice _=>ob (elemOf T t) fun e=>dI ((dJ H v).isSome=true∧kc H e.2.size v=true) (some y)
   | .str=>(match v with
    | .str _=>some y
    |_=>none)
   |_=>none)
 | .fieldAddr t x f=>ob (jU T t f) fun p=>ob (ev G env x) fun v=>dI (ml H v=true) (eY p.1 p.2 v)
 | .field t x f=>ob (jU T t f) fun p=>ob (ev G env x) fun v=>dI (v.isAgg=true) (sub v p.1 p.2)
 | .indexAddr t x i=>ob (ev G env x) fun s=>ob (ev G env i) fun iv=>ob (Cf iv) fun n=>
  bb (Av s) (ob (wa T t) fun p=>dI ((0≤n∧n<(p.1:Int))∧ml H s=true) (eY (n.toNat*p.2.size) p.2 s))
  (ob (elemOf T t) fun e=>ob (dJ H s) fun xs=>
  dI (0≤n) (ob xs[n.toNat]? fun y=>match s with
   | .list sz _=>dI (sz=e.2.size) (some (.kC y))
   | .sl id g off _=>ob (cL H id g) fun b=>dI (b.1=e.2.size) (some (.ptr id g (off+n.toNat) 0))
   |_=>none))
 | .index t x i=>ob (T.get t) fun ti=>ob (ev G env x) fun s=>ob (ev G env i) fun iv=>ob (Cf iv) fun n=>(match ti.d,s with
  | .str,.str bs=>dI (0≤n) (ob bs[n.toNat]? fun b=>some (.int .u8 b.toNat))
  | .array m e,.agg fs=>dI (0≤n∧n<(m:Int)) (ob (T.get e) fun ie=>sub (.agg fs) (n.toNat*ie.size) ie)
  |_,_=>none)
 | .lookup t m key ok=>ob (dB T t) fun p=>ob (ev G env m) fun v=>ob (mapOf H p.1 v) fun es=>ob (ev G env key) fun kx=>dI (eB p.1 kx=true)
  (some (if ok then .tuple [(bI es kx).getD p.2.zero,.bool (bI es kx).isSome] else (bI es kx).getD p.2.zero))
 | .extract x j=>ob (ev G env x) fun v=>match v with
  | .tuple xs=>xs[j]?
  |_=>none
 | .call ⟨.builtin .len,⟨[x]⟩,⟨[t]⟩⟩=>ob (T.get t) fun i=>ob (ev G env x) fun v=>HL H i v
 | .call ⟨.builtin .min,⟨[x,y]⟩,_⟩=>ob (ev G env x) fun x=>ob (ev G env y) fun y=>match x,y with
  | .int i a,.int _ b=>dI (i.min≤b∧b≤i.max) (some (.int i (if b<a then b else a)))
  |_,_=>none
 | .call ⟨.builtin .max,⟨[x,y]⟩,_⟩=>ob (ev G env x) fun x=>ob (ev G env y) fun y=>match x,y with
  | .int i a,.int _ b=>dI (i.min≤b∧b≤i.max) (some (.int i (if a<b then b else a)))
  |_,_=>none
 |_=>none
def Cw (H:List ax) (e:TI) (s:SV) (ys:List SV):Option (SV×List ax):=
 match s with
 | .nil=>dI (0<e.bytes∧ys.length*e.bytes≤70368744177664) (some (.sl H.length 0 0 ys.length,H++[.cells 0 e.size ys]))
 | .sl id g off len=>ob (cL H id g) fun b=>dI ((0<e.bytes∧b.1=e.size)∧off+len=b.2.length∧(len+ys.length)*e.bytes≤70368744177664)
  (some (.sl id (g+1) 0 (len+ys.length),H.set id (.cells (g+1) e.size (b.2.drop off++ys))))
 |_=>none
def Hf (H:List ax) (e:TI) (s:SV) (ys:List SV):Option (SV×List ax):=
 match s with
 | .sl id g off len=>ob (cL H id g) fun b=>dI ((0<e.bytes∧b.1=e.size)∧(len+ys.length)*e.bytes≤70368744177664∧0<e.size∧off+len+ys.length≤b.2.length)
  (some (.sl id g off (len+ys.length),H.set id (.cells g e.size (b.2.take (off+len)++ys++b.2.drop (off+len+ys.length)))))
 |_=>none
def copyV (H:List ax) (e:TI) (d:SV) (ys:List SV):Option (SV×List ax):=
 match d with
 | .sl id g off len=>ob (cL H id g) fun b=>dI (b.1=e.size∧0<e.size∧off+len≤b.2.length)
  (some (.int .i64 (min ys.length len:Nat),H.set id (.cells g e.size (b.2.take off++ys.take (min ys.length len)++b.2.drop (off+min ys.length len)))))
 |_=>none
def yP (H:List ax) (e:TI) (x:SV):Option (SV×List ax):=
 match x with
 | .nil=>some (.tuple [],H)
 | .sl id g off len=>ob (cL H id g) fun b=>dI (b.1=e.size∧0<e.size∧off+len≤b.2.length)
  (some (.tuple [],H.set id (.cells g e.size (b.2.take off++List.replicate len e.zero++b.2.drop (off+len)))))
 |_=>none
def lv (G:Gl) (T:aT) (own:List Nat) (env:Env) (H:List ax) (dst:Option Nat) (ty:Nat):Op→Option (SV×List ax)
 | .assign x=>bb (oD dst own) (ob (elemOf T ty) fun e=>ob (ev G env x) fun v=>match v with
  | .nil=>some (.sl H.length 0 0 0,H++[.cells 0 e.2.size []])
  |_=>none) none
 | .alloc t=>ob (T.get t) fun i=>some (.ptr H.length 0 0 0,H++[.cells 0 i.size [i.zero]])
 | .box t x=>ob (T.get t) fun i=>ob (ev G env x) fun v=>dI (fits i v=true) (some (.ptr H.length 0 0 0,H++[.cells 0 i.size [v]]))
 | .buildSlice t len parts=>ob (elemOf T t) fun e=>dI (((len*e.2.size≤16777216∧0<e.2.size)∧fits e.2 e.2.zero=true)∧(len==0||oD dst own)=true) (ob (cW e.2 G env (List.replicate len e.2.zero) parts.toList) fun xs=>
  some (.sl H.length 0 0 len,H++[.cells 0 e.2.size xs]))
 | .store t x y=>ob (T.get t) fun i=>ob (ev G env x) fun p=>ob (ev G env y) fun v=>ob (l3 H i v p) fun H'=>some (.undef,H')
 | .makeMap t none=>ob (dB T t) fun p=>some (.map H.length,H++[.map p.1 []])
 | .convert st dt x=>ob (T.get st) fun si=>ob (T.get dt) fun i=>ob (ev G env x) fun v=>match i.d,v with
  | .slice e,.sl id g off len=>dI (xx T e=true∧st=dt∧0<len) (ob (cL H id g) fun b=>dI (b.1=1) (some (.sl id g off len,H)))
  | .slice e,.str s=>dI (xx T e=true) (some (.sl H.length 0 0 s.length,H++[.cells 0 1 (dC s)]))
  | .str,.str _=>none
  | .str,v=>dI (lZ T si.d=true∧kc H 1 v=true) (ob (dJ H v) fun xs=>ob (strOf xs) fun s=>some (.str s,H))
  |_,_=>none
 | .makeSlice t x y=>ob (elemOf T t) fun e=>ob (ev G env x) fun xv=>ob (Cf xv) fun n=>ob (ev G env y) fun yv=>ob (Cf yv) fun m=>
  dI (m=n∧0≤n∧0<e.2.bytes∧0<e.2.size∧n.toNat*e.2.bytes≤70368744177664) (dI (fits e.2 e.2.zero=true) (some (.sl H.length 0 0 n.toNat,H++[.cells 0 e.2.size (List.replicate n.toNat e.2.zero)])))
 | .slice t x lo (some hi) (some mx)=>ob (elemOf T t) fun e=>ob (ev G env x) fun v=>ob (eP H v) fun n=>ob (cr G env lo 0) fun l=>ob (cr G env (some hi) 0) fun h=>ob (cr G env (some mx) 0) fun m=>
  dI (0≤l∧l≤h∧h≤m∧m≤(n:Int)) (dI ((dJ H v).isSome=true) (some (.sl H.length 0 0 0,H++[.dead])))
 | .call ⟨.builtin .copy,⟨[d,s]⟩,⟨[t,ts]⟩⟩=>ob (elemOf T t) fun e=>ob (elemOf T ts) fun _=>ob (ev G env d) fun d=>ob (ev G env s) fun s=>ob (dJ H s) fun ys=>dI (kc H e.2.size s=true) (copyV H e.2 d ys)
 | .call ⟨.builtin .clear,⟨[x]⟩,⟨[t]⟩⟩=>ob (elemOf T t) fun e=>ob (ev G env x) fun x=>yP H e.2 x
 | .mapUpdate t m key x=>ob (dB T t) fun p=>ob (ev G env m) fun v=>(match v with
  | .map id=>ob (mapOf H p.1 v) fun es=>ob (ev G env key) fun kx=>ob (ev G env x) fun y=>dI (eB p.1 kx=true) (some (.undef,H.set id (.map p.1 (cG es kx y))))
  |_=>none)
 | .insert t m key x=>ob (dB T t) fun p=>ob (ev G env m) fun v=>(match v with
  | .map id=>ob (mapOf H p.1 v) fun es=>ob (ev G env key) fun kx=>ob (ev G env x) fun y=>dI (eB p.1 kx=true) (some (.undef,H.set id (.map p.1 (cG es kx y))))
  |_=>none)
 | .call ⟨.builtin .append,⟨[s,x]⟩,⟨[t,tx]⟩⟩=>ob (elemOf T t) fun e=>ob (T.get tx) fun ix=>ob (ev G env s) fun s=>ob (ev G env x) fun x=>
  match ix.d with
  | .slice _=>ob (dJ H x) fun ys=>dI (kc H e.2.size x=true) (Cw H e.2 s ys)
  | .str=>(match x with
   | .str bs=>dI (e.2.size=1) (Cw H e.2 s (dC bs))
   |_=>none)
  |_=>none
 |_=>none
section
variable {P:Program} {G:Gl} {T:aT} {own:List Nat} {nt B:Nat} {ρ:Option Nat} {C:Cx} {env:Env} {H:List ax}
theorem tc {α:Type} {b:Bool} {x y:Option α} {r:α} (h:bb b x y=some r):(b=true∧x=some r)∨(b=false∧y=some r):=by
 cases b
 ·exact .inr ⟨rfl,h⟩
 ·exact .inl ⟨rfl,h⟩
theorem FW {i:TI} {v r:SV} {k:SV→List ax→Prop} (h:HL H i v=some r) (hk:k r H):bV (lS H i.d v=true) (aI (eP H v) fun n=>match i.d with
 | .map _ _=>bV (n≤9223372036854775807) (k (.int .i64 n) H)
 |_=>k (.int .i64 n) H):=by
 obtain⟨h1,h2⟩:=br h
 obtain⟨n,h3,h4⟩:=aJ h2
 refine⟨h1,n,h3,?_⟩
 split at h4
 ·obtain⟨h5,h6⟩:=br h4
  cases h6
  exact⟨h5,hk⟩
 ·cases h4
  exact hk
theorem tT {dst:Option Nat} {ty:Nat} {op:Op} {v:SV} {k:SV→List ax→Prop} (h:qv G T own env H dst ty op=some v) (hk:k v H):cH P G T own env H dst ty op k:=by
 unfold qv at h
 split at h
 ·exact⟨_,h,hk⟩
 ·rcases tc h with⟨h1,h2⟩|⟨h1,h2⟩
  ·obtain⟨e,h3,h4⟩:=aJ h2
   obtain⟨u,h5,h6⟩:=aJ h4
   refine And.intro (fun _=>⟨e,h3,u,h5,?_⟩) (fun h=>by rw[h1] at h;cases h)
   cases u<;>first
    |(cases h6;done)
    |(cases h6;exact hk)
  ·exact And.intro (fun h=>by rw[h1] at h;cases h) (fun _=>⟨v,h2,hk⟩)
 ·obtain⟨u,h1,h2⟩:=aJ h
  obtain⟨g,h3,h4⟩:=aJ h2
  obtain⟨X,h5,h6⟩:=aJ h4
  obtain⟨Y,h7,h8⟩:=aJ h6
  cases h8
  refine⟨u,h1,g,h3,And.intro (fun hg=>?_) (fun hg=>?_)⟩
  ·rw[hg] at hk;exact⟨_,h5,hk⟩
  ·rw[hg] at hk;exact⟨_,h7,hk⟩
 ·obtain⟨i,h1,h2⟩:=aJ h
  obtain⟨h3,h4⟩:=br h2
  obtain⟨ps,h5,h6⟩:=aJ h4
  exact⟨i,h1,h3,ps,h5,v,h6,hk⟩
 ·obtain⟨i,h1,h2⟩:=aJ h
  obtain⟨⟨h3,h3'⟩,h4⟩:=br h2
  obtain⟨ps,h5,h6⟩:=aJ h4
  cases h6
  refine⟨i,h1,h3,ps,h5,?_⟩
  exact And.intro (fun hh=>by rw[h3'] at hh;cases hh) (fun _=>hk)
 ·obtain⟨i,h1,h2⟩:=aJ h
  obtain⟨p,h3,h4⟩:=aJ h2
  exact⟨i,h1,p,h3,v,h4,hk⟩
 ·obtain⟨u,h1,h2⟩:=aJ h
  obtain⟨h3,h4⟩:=br h2
  cases h4
  exact⟨_,h1,h3,hk⟩
 ·obtain⟨a,h1,h2⟩:=aJ h
  obtain⟨b,h3,h4⟩:=aJ h2
  rcases tc h4 with⟨hn,h5⟩|⟨hn,h5⟩
  ·exact⟨a,h1,b,h3,And.intro (fun _=>FJ h5 hk) (fun hh=>by rw[hn] at hh;cases hh)⟩
  ·exact⟨a,h1,b,h3,And.intro (fun hh=>by rw[hn] at hh;cases hh) (fun _=>E8 h5 hk)⟩
 ·obtain⟨a,h1,h2⟩:=aJ h
  refine⟨a,h1,?_⟩
  unfold Nc at h2
  split at h2
  ·cases h2;exact hk
  ·cases h2;exact hk
  ·cases h2
 ·obtain⟨i,h1,h2⟩:=aJ h
  obtain⟨j,h3,h4⟩:=aJ h2
  obtain⟨u,h5,h6⟩:=aJ h4
  refine⟨i,h1,j,h3,u,h5,?_⟩
  obtain⟨d,a1,a2,a3⟩:=j
  cases d<;>cases u<;>first
   |(cases h6;done)
   |(cases h6;exact hk)
   |(obtain⟨g1,g2⟩:=br h6;obtain⟨xs,g3,g4⟩:=aJ g2;obtain⟨s,g5,g6⟩:=aJ g4;cases g6;exact⟨g1,xs,g3,s,g5,hk⟩)
 ·obtain⟨xs,h1,h2⟩:=aJ h
  obtain⟨ys,h3,h4⟩:=aJ h2
  cases h4
  exact⟨xs,h1,ys,h3,hk⟩
 ·obtain⟨i,h1,h2⟩:=aJ h
  obtain⟨u,h3,h4⟩:=aJ h2
  obtain⟨n,h5,h6⟩:=aJ h4
  obtain⟨l,h7,h8⟩:=aJ h6
  obtain⟨hh,h9,h10⟩:=aJ h8
  obtain⟨h11,h12⟩:=br h10
  obtain⟨y,h13,h14⟩:=aJ h12
  refine⟨i,h1,u,h3,n,h5,l,h7,hh,h9,h11,y,h13,?_⟩
  obtain⟨d,a1,a2,a3⟩:=i
  cases d<;>simp only at h14 ⊢ <;>try (cases h14;done)
  ·cases u<;>first
    |(cases h14;done)
    |(cases h14;exact hk)
  ·obtain⟨e,g1,g2⟩:=aJ h14
   obtain⟨g3,g4⟩:=br g2
   cases g4
   exact⟨e,g1,g3.1,g3.2,hk⟩
 ·obtain⟨p,h1,h2⟩:=aJ h
  obtain⟨u,h3,h4⟩:=aJ h2
  obtain⟨h5,h6⟩:=br h4
  exact⟨p,h1,u,h3,h5,v,h6,hk⟩
 ·obtain⟨p,h1,h2⟩:=aJ h
  obtain⟨u,h3,h4⟩:=aJ h2
  obtain⟨h5,h6⟩:=br h4
  exact⟨p,h1,u,h3,h5,v,h6,hk⟩
 ·obtain⟨s,h3,h4⟩:=aJ h
  obtain⟨iv,h5,h6⟩:=aJ h4
  obtain⟨n,h7,h8⟩:=aJ h6
  refine⟨s,h3,iv,h5,n,h7,?_⟩
  rcases tc h8 with⟨hp,h8⟩|⟨hp,h8⟩
  ·obtain⟨p,g1,g2⟩:=aJ h8
   obtain⟨g3,g4⟩:=br g2
   exact And.intro (fun _=>⟨p,g1,g3,v,g4,hk⟩) (fun h=>by rw[hp] at h;cases h)
  refine And.intro (fun h=>by rw[hp] at h;cases h) (fun _=>?_)
  obtain⟨e,h1,h8⟩:=aJ h8
  obtain⟨xs,h9,h10⟩:=aJ h8
  obtain⟨h11,h12⟩:=br h10
  obtain⟨y,h13,h14⟩:=aJ h12
  refine⟨e,h1,xs,h9,h11,y,h13,?_⟩
  split at h14
  ·obtain⟨g1,g2⟩:=br h14
   cases g2
   exact⟨g1,hk⟩
  ·obtain⟨b,g1,g2⟩:=aJ h14
   obtain⟨g3,g4⟩:=br g2
   cases g4
   exact⟨b,g1,g3,hk⟩
  ·cases h14
 ·obtain⟨e,h1,h2⟩:=aJ h
  obtain⟨s,h3,h4⟩:=aJ h2
  obtain⟨iv,h5,h6⟩:=aJ h4
  obtain⟨n,h7,h8⟩:=aJ h6
  refine⟨e,h1,s,h3,iv,h5,n,h7,?_⟩
  obtain⟨d,a1,a2,a3⟩:=e
  cases d<;>cases s<;>try (cases h8;done)
  ·obtain⟨g1,g2⟩:=br h8
   obtain⟨b,g3,g4⟩:=aJ g2
   cases g4
   exact⟨g1,b,g3,hk⟩
  ·obtain⟨g1,g2⟩:=br h8
   obtain⟨b,g3,g4⟩:=aJ g2
   exact⟨g1,b,g3,v,g4,hk⟩
 ·obtain⟨p,h1,h2⟩:=aJ h
  obtain⟨m,h3,h4⟩:=aJ h2
  obtain⟨es,h5,h6⟩:=aJ h4
  obtain⟨kx,h7,h8⟩:=aJ h6
  obtain⟨g1,g2⟩:=br h8
  cases g2
  exact⟨p,h1,m,h3,es,h5,kx,h7,g1,hk⟩
 ·obtain⟨u,h1,h2⟩:=aJ h
  refine⟨u,h1,?_⟩
  split at h2
  ·exact⟨v,h2,hk⟩
  ·cases h2
 ·obtain⟨i,h1,h2⟩:=aJ h
  obtain⟨u,h3,h4⟩:=aJ h2
  exact⟨i,h1,u,h3,FW h4 hk⟩
 ·obtain⟨a,h1,h2⟩:=aJ h
  obtain⟨b,h3,h4⟩:=aJ h2
  refine⟨a,h1,b,h3,?_⟩
  split at h4
  ·obtain⟨g1,g2⟩:=br h4
   cases g2
   exact⟨g1,hk⟩
  ·cases h4
 ·obtain⟨a,h1,h2⟩:=aJ h
  obtain⟨b,h3,h4⟩:=aJ h2
  refine⟨a,h1,b,h3,?_⟩
  split at h4
  ·obtain⟨g1,g2⟩:=br h4
   cases g2
   exact⟨g1,hk⟩
  ·cases h4
 ·cases h
theorem Ab {e:TI} {s:SV} {ys:List SV} {v:SV} {H':List ax} {k:SV→List ax→Prop} (h:Cw H e s ys=some (v,H')) (hk:k v H'):eC H e s ys k:=by
 unfold Cw at h
 split at h
 ·obtain⟨h1,h2⟩:=br h
  cases h2
  exact⟨h1.1,h1.2,hk⟩
 ·obtain⟨b,h1,h2⟩:=aJ h
  obtain⟨h3,h4⟩:=br h2
  cases h4
  exact⟨b,h1,h3.1,h3.2.2,.inl ⟨h3.2.1,hk⟩⟩
 ·cases h
theorem E5 {e:TI} {s:SV} {ys:List SV} {v:SV} {H':List ax} {k:SV→List ax→Prop} (h:Hf H e s ys=some (v,H')) (hk:k v H'):eC H e s ys k:=by
 unfold Hf at h
 split at h
 ·obtain⟨b,h1,h2⟩:=aJ h
  obtain⟨h3,h4⟩:=br h2
  cases h4
  exact⟨b,h1,h3.1,h3.2.1,.inr ⟨h3.2.2.1,h3.2.2.2,hk⟩⟩
 ·cases h
def LI (G:Gl) (T:aT) (env:Env) (H:List ax):Op→Option (SV×List ax)
 | .call ⟨.builtin .append,⟨[s,x]⟩,⟨[t,tx]⟩⟩=>ob (elemOf T t) fun e=>ob (elemOf T tx) fun _=>ob (ev G env s) fun s=>ob (ev G env x) fun x=>ob (dJ H x) fun ys=>dI (kc H e.2.size x=true) (Hf H e.2 s ys)
 |_=>none
theorem HP {dst:Option Nat} {ty:Nat} {op:Op} {v:SV} {H':List ax} {k:SV→List ax→Prop} (h:LI G T env H op=some (v,H')) (hk:k v H'):cH P G T own env H dst ty op k:=by
 unfold LI at h
 split at h
 ·obtain⟨e,h1,h2⟩:=aJ h
  obtain⟨ex,h3,h4⟩:=aJ h2
  obtain⟨s,h5,h6⟩:=aJ h4
  obtain⟨x,h7,h8⟩:=aJ h6
  obtain⟨ys,h9,h10⟩:=aJ h8
  obtain⟨h11,h12⟩:=br h10
  unfold elemOf at h3
  split at h3
  ·rename_i e' z1 z2 z3 hq
   exact⟨e,h1,_,hq,s,h5,x,h7,ys,h9,h11,E5 h12 hk⟩
  ·cases h3
 ·cases h
theorem xE {dst:Option Nat} {ty:Nat} {op:Op} {v:SV} {H':List ax} {k:SV→List ax→Prop} (h:lv G T own env H dst ty op=some (v,H')) (hk:k v H'):cH P G T own env H dst ty op k:=by
 unfold lv at h
 split at h
 ·rcases tc h with⟨h1,h2⟩|⟨h1,h2⟩
  ·obtain⟨e,h3,h4⟩:=aJ h2
   obtain⟨u,h5,h6⟩:=aJ h4
   refine And.intro (fun _=>⟨e,h3,u,h5,?_⟩) (fun h=>by rw[h1] at h;cases h)
   cases u<;>first
    |(cases h6;done)
    |(cases h6;exact hk)
  ·cases h2
 ·obtain⟨i,h1,h2⟩:=aJ h
  cases h2
  exact⟨i,h1,hk⟩
 ·obtain⟨i,h1,h2⟩:=aJ h
  obtain⟨u,h3,h4⟩:=aJ h2
  obtain⟨h5,h6⟩:=br h4
  cases h6
  exact⟨i,h1,u,h3,h5,hk⟩
 ·obtain⟨i,h1,h2⟩:=aJ h
  obtain⟨⟨h3,h3'⟩,h4⟩:=br h2
  obtain⟨ps,h5,h6⟩:=aJ h4
  cases h6
  refine⟨i,h1,h3,ps,h5,?_⟩
  exact And.intro (fun _=>hk) (fun hh=>by rw[h3'] at hh;cases hh)
 ·obtain⟨i,h1,h2⟩:=aJ h
  obtain⟨p,h3,h4⟩:=aJ h2
  obtain⟨u,h5,h6⟩:=aJ h4
  obtain⟨H2,h7,h8⟩:=aJ h6
  cases h8
  exact⟨i,h1,p,h3,u,h5,_,h7,hk⟩
 ·obtain⟨i,h1,h2⟩:=aJ h
  cases h2
  exact⟨i,h1,hk⟩
 ·obtain⟨i,h1,h2⟩:=aJ h
  obtain⟨j,h3,h4⟩:=aJ h2
  obtain⟨u,h5,h6⟩:=aJ h4
  refine⟨i,h1,j,h3,u,h5,?_⟩
  obtain⟨d,a1,a2,a3⟩:=j
  cases d<;>cases u<;>first
   |(cases h6;done)
   |(obtain⟨g1,g2⟩:=br h6;cases g2;exact⟨g1,hk⟩)
   |(obtain⟨g1,g2⟩:=br h6;obtain⟨b,g3,g4⟩:=aJ g2;obtain⟨g5,g6⟩:=br g4;cases g6;exact⟨g1,b,g3,g5,hk⟩)
   |(obtain⟨g1,g2⟩:=br h6;obtain⟨xs,g3,g4⟩:=aJ g2;obtain⟨s,g5,g6⟩:=aJ g4;cases g6;exact⟨g1,xs,g3,s,g5,hk⟩)
 ·obtain⟨e,h1,h⟩:=aJ h
  obtain⟨xv,h2,h⟩:=aJ h
  obtain⟨n,h3,h⟩:=aJ h
  obtain⟨yv,h4,h⟩:=aJ h
  obtain⟨m,h5,h⟩:=aJ h
  obtain⟨h6,h⟩:=br h
  obtain⟨h7,h⟩:=br h
  cases h
  exact⟨e,h1,xv,h2,n,h3,yv,h4,m,h5,h6,h7,hk⟩
 ·obtain⟨e,h1,h⟩:=aJ h
  obtain⟨xv,h2,h⟩:=aJ h
  obtain⟨n,h3,h⟩:=aJ h
  obtain⟨l,h4,h⟩:=aJ h
  obtain⟨hh,h5,h⟩:=aJ h
  obtain⟨m,h6,h⟩:=aJ h
  obtain⟨h7,h⟩:=br h
  obtain⟨h8,h⟩:=br h
  cases h
  exact⟨e,h1,xv,h2,n,h3,l,h4,hh,h5,m,h6,h7,h8,hk⟩
 ·obtain⟨e,h1,h⟩:=aJ h
  obtain⟨e',h2,h⟩:=aJ h
  obtain⟨d,h3,h⟩:=aJ h
  obtain⟨s,h4,h⟩:=aJ h
  obtain⟨ys,h5,h⟩:=aJ h
  obtain⟨h6,h⟩:=br h
  refine⟨e,h1,e',h2,d,h3,s,h4,ys,h5,h6,?_⟩
  unfold copyV at h
  cases d<;>try (cases h;done)
  obtain⟨b,h7,h⟩:=aJ h
  obtain⟨h8,h⟩:=br h
  cases h
  exact⟨b,h7,h8,hk⟩
 ·obtain⟨e,h1,h⟩:=aJ h
  obtain⟨xv,h2,h⟩:=aJ h
  refine⟨e,h1,xv,h2,?_⟩
  unfold yP at h
  cases xv<;>try (cases h;done)
  ·cases h;exact hk
  ·obtain⟨b,h7,h⟩:=aJ h
   obtain⟨h8,h⟩:=br h
   cases h
   exact⟨b,h7,h8,hk⟩
 ·obtain⟨p,h1,h2⟩:=aJ h
  obtain⟨u,h3,h4⟩:=aJ h2
  refine⟨p,h1,u,h3,?_⟩
  cases u<;>try (cases h4;done)
  obtain⟨es,h5,h6⟩:=aJ h4
  obtain⟨kx,h7,h8⟩:=aJ h6
  obtain⟨y,h9,h10⟩:=aJ h8
  obtain⟨g1,g2⟩:=br h10
  cases g2
  exact⟨es,h5,kx,h7,y,h9,g1,hk⟩
 ·obtain⟨p,h1,h2⟩:=aJ h
  obtain⟨u,h3,h4⟩:=aJ h2
  refine⟨p,h1,u,h3,?_⟩
  cases u<;>try (cases h4;done)
  obtain⟨es,h5,h6⟩:=aJ h4
  obtain⟨kx,h7,h8⟩:=aJ h6
  obtain⟨y,h9,h10⟩:=aJ h8
  obtain⟨g1,g2⟩:=br h10
  cases g2
  exact⟨es,h5,kx,h7,y,h9,g1,hk⟩
 ·obtain⟨e,h1,h2⟩:=aJ h
  obtain⟨ix,h3,h4⟩:=aJ h2
  obtain⟨s,h5,h6⟩:=aJ h4
  obtain⟨x,h7,h8⟩:=aJ h6
  refine⟨e,h1,ix,h3,s,h5,x,h7,?_⟩
  obtain⟨d,a1,a2,a3⟩:=ix
  cases d<;>simp only at h8 ⊢ <;>try (cases h8;done)
  ·cases x<;>simp only at h8 ⊢ <;>try (cases h8;done)
   obtain⟨g1,g2⟩:=br h8
   exact⟨g1,Ab g2 hk⟩
  ·obtain⟨ys,g1,g2⟩:=aJ h8
   obtain⟨g3,g4⟩:=br g2
   exact⟨ys,g1,g3,Ab g4 hk⟩
 ·cases h
end
end
section
section
variable {P:Program} {G:Gl} {T:aT} {own:List Nat} {nt B:Nat} {ρ:Option Nat} {C:Cx} {env env2:Env} {H:List ax}
theorem fF:∀ {l:List Operand},(∀ x∈l,ev G env x=ev G env2 x)→jb G env l=jb G env2 l
 |[],_=>rfl
 |x::r,h=>by
  simp only[jb]
  rw[h x (by simp),fF (l:=r) (fun y hy=>h y (by simp[hy]))]
theorem iP {d:TD}:∀ {l:List (Nat×Operand)},(∀ x∈l.map (·.2),ev G env x=ev G env2 x)→partsOf T d G env l=partsOf T d G env2 l
 |[],_=>rfl
 |(j,x)::r,h=>by
  simp only[partsOf]
  rw[h x (by simp),iP (l:=r) (fun y hy=>h y (by simp only[List.map_cons,List.mem_cons];exact .inr hy))]
theorem iK {i:TI}:∀ {l:List (Nat×Operand)} {xs:List SV},(∀ x∈l.map (·.2),ev G env x=ev G env2 x)→cW i G env xs l=cW i G env2 xs l
 |[],_,_=>rfl
 |(j,x)::r,xs,h=>by
  simp only[cW]
  rw[h x (by simp)]
  cases ev G env2 x with
  |none=>rfl
  |some v=>
   simp only
   split
   ·exact iK (fun y hy=>h y (by simp only[List.map_cons,List.mem_cons];exact .inr hy))
   ·rfl
theorem eW {o:Option Operand} {d:Int} (h:∀ x∈o,ev G env x=ev G env2 x):cr G env o d=cr G env2 o d:=by
 cases o with
 |none=>rfl
 |some x=>simp only[cr];rw[h x rfl]
theorem ou {b:Builtin} {args:List Operand} {tys:List Nat} {k:SV→List ax→Prop} (h:∀ x∈args,ev G env x=ev G env2 x):dO T G env H b args tys k=dO T G env2 H b args tys k:=by
 unfold dO
 split
 all_goals first
  |rfl
  |(simp only[List.mem_cons,List.not_mem_nil,or_false,forall_eq_or_imp,forall_eq] at h;simp only[h])
def fJ:Op→List Operand
 | .move x| .assign x| .box _ x| .load _ x| .nilCheck x| .unOp _ _ x| .convert _ _ x| .fieldAddr _ x _| .field _ x _| .extract x _=>[x]
 | .pick c x y=>[c,x,y]
 | .build _ ps| .buildSlice _ _ ps=>ps.toList.map (·.2)
 | .store _ x y| .binOp _ _ x y _| .indexAddr _ x y| .index _ x y| .lookup _ x y _=>[x,y]
 | .makeFunc _ f c=>f.toList++c.toList
 | .slice _ x l h m=>x::(l.toList++h.toList++m.toList)
 | .mapUpdate _ m k v=>[m,k,v]
 | .insert _ m k v=>[m,k,v]
 | .makeSlice _ x y=>[x,y]
 | .call c=>(match c.callee with
  | .value f=>[f]
  | .invoke r _=>[r]
  | .builtin _=>[])++c.args.toList
 |_=>[]
theorem pc {dst:Option Nat} {ty:Nat} {op:Op} {k:SV→List ax→Prop} (h:∀ x∈fJ op,ev G env x=ev G env2 x):cH P G T own env H dst ty op k=cH P G T own env2 H dst ty op k:=by
 cases op
 case build t ps=>
  have e1:∀ d,partsOf T d G env ps.toList=partsOf T d G env2 ps.toList:=fun d=>iP h
  simp only[cH,e1]
 case buildSlice t n ps=>
  have e1:∀ (i:TI) xs,cW i G env xs ps.toList=cW i G env2 xs ps.toList:=fun d xs=>iK h
  simp only[cH,e1]
 case makeFunc f a b=>
  have e1:jb G env a.toList=jb G env2 a.toList:=fF fun x hx=>h x (by simp only[fJ,List.mem_append];exact .inl hx)
  have e2:jb G env b.toList=jb G env2 b.toList:=fF fun x hx=>h x (by simp only[fJ,List.mem_append];exact .inr hx)
  simp only[cH,e1,e2]
 case slice t x l hh m=>
  have e0:ev G env x=ev G env2 x:=h x (by simp[fJ])
  have e1:∀ d,cr G env l d=cr G env2 l d:=fun d=>eW fun y hy=>h y (by simp[fJ];exact .inr (.inl hy))
  have e2:∀ d,cr G env hh d=cr G env2 hh d:=fun d=>eW fun y hy=>h y (by simp[fJ];exact .inr (.inr (.inl hy)))
  cases m with
  |none=>simp only[cH,e0,e1,e2]
  |some mm=>
   have e3:∀ d,cr G env (some mm) d=cr G env2 (some mm) d:=fun d=>eW fun y hy=>h y (by simp[fJ];exact .inr (.inr (.inr (by simpa [eq_comm] using hy))))
   cases hh with
   |none=>simp only[cH]
   |some hv=>simp only[cH,e0,e1,e2,e3]
 case makeMap t r=>cases r<;>rfl
 case call c=>
  obtain⟨cl,args,tys⟩:=c
  cases cl
  case value f=>
   have e0:ev G env f=ev G env2 f:=h f (by simp[fJ])
   have e1:jb G env args.toList=jb G env2 args.toList:=fF fun x hx=>h x (by simp only[fJ,List.mem_append];exact .inr hx)
   simp only[cH,e0,e1]
  case builtin b=>exact ou fun x hx=>h x (by simp only[fJ,List.mem_append];exact .inr hx)
  case invoke r m=>simp only[cH]
 all_goals first
  |rfl
  |(simp only[fJ,List.mem_cons,List.not_mem_nil,or_false,forall_eq_or_imp,forall_eq] at h;simp only[cH,h])
  |simp only[cH]
theorem BQ {dst:Option Nat} {ty:Nat} {op:Op} (h:∀ x∈fJ op,ev G env x=ev G env2 x):qv G T own env H dst ty op=qv G T own env2 H dst ty op:=by
 cases op
 case build t ps=>
  have e1:∀ d,partsOf T d G env ps.toList=partsOf T d G env2 ps.toList:=fun d=>iP h
  simp only[qv,e1]
 case buildSlice t n ps=>
  have e1:∀ (i:TI) xs,cW i G env xs ps.toList=cW i G env2 xs ps.toList:=fun d xs=>iK h
  simp only[qv,e1]
 case makeFunc f a b=>
  have e1:jb G env a.toList=jb G env2 a.toList:=fF fun x hx=>h x (by simp only[fJ,List.mem_append];exact .inl hx)
  have e2:jb G env b.toList=jb G env2 b.toList:=fF fun x hx=>h x (by simp only[fJ,List.mem_append];exact .inr hx)
  simp only[qv,e1,e2]
 case slice t x l hh m=>
  have e0:ev G env x=ev G env2 x:=h x (by simp[fJ])
  have e1:∀ d,cr G env l d=cr G env2 l d:=fun d=>eW fun y hy=>h y (by simp[fJ];exact .inr (.inl hy))
  have e2:∀ d,cr G env hh d=cr G env2 hh d:=fun d=>eW fun y hy=>h y (by simp[fJ];exact .inr (.inr (.inl hy)))
  cases m<;>simp only[qv,e0,e1,e2]
 case makeMap t r=>cases r<;>rfl
 case call c=>
  obtain⟨cl,args,tys⟩:=c
  cases cl
  case value f=>
   have e0:ev G env f=ev G env2 f:=h f (by simp[fJ])
   have e1:jb G env args.toList=jb G env2 args.toList:=fF fun x hx=>h x (by simp only[fJ,List.mem_append];exact .inr hx)
   simp only[qv,e0,e1]
  case builtin b=>
   obtain⟨al⟩:=args
   obtain⟨tl⟩:=tys
   cases b<;>first
    |rfl
    |(rcases al with _|⟨x,_|⟨y,_|⟨z,al⟩⟩⟩<;>rcases tl with _|⟨t1,_|⟨t2,tl⟩⟩<;>first
     |rfl
     |(simp[fJ] at h;simp only[qv,h]))
  case invoke r m=>simp only[qv]
 all_goals first
  |rfl
  |(simp only[fJ,List.mem_cons,List.not_mem_nil,or_false,forall_eq_or_imp,forall_eq] at h;simp only[qv,h])
  |simp only[qv]
def ij (env env2:Env):Prop:=∀ t,look env t=look env2 t
theorem ij.refl (env:Env):ij env env:=fun _=>rfl
theorem ij.symm {env env2:Env} (h:ij env env2):ij env2 env:=fun t=>(h t).symm
theorem ij.trans {a b c:Env} (h:ij a b) (h2:ij b c):ij a c:=fun t=>(h t).trans (h2 t)
theorem ij.cons {a b:Env} (h:ij a b) (p:Nat×SV):ij (p::a) (p::b):=fun t=>by
 obtain⟨k,v⟩:=p
 simp only[look,h t]
theorem ij.lD {env:Env} {d:Nat} {x:SV} (h:look env d=some x):ij ((d,x)::env) env:=fun t=>by
 simp only[look]
 split
 ·rename_i e;rw[e,h]
 ·rfl
theorem jN {α:Type} {x:Option α} {f g:α→Prop} (h:∀ a,f a→g a):aI x f→aI x g:=fun⟨a,h1,h2⟩=>⟨a,h1,h a h2⟩
theorem iV {p q r:Prop} (h:q→r):bV p q→bV p r:=fun⟨a,b⟩=>⟨a,h b⟩
theorem EU {b:Bool} {p q p' q':Prop} (h1:p→p') (h2:q→q'):Br b p q→Br b p' q':=fun⟨x,y⟩=>⟨fun h=>h1 (x h),fun h=>h2 (y h)⟩
theorem yJ {H:List ax} {tb:Nat} {op:BinOp} {x y:SV} {k k':SV→Prop} (hk:∀ v,k v→k' v):dH H tb op x y k→dH H tb op x y k':=by
 unfold dH
 repeat' first
  |exact hk _
  |exact id
  |refine jN fun _=>?_
  |refine iV ?_
  |exact fun h=>⟨fun e=>hk _ (h.1 e),hk _ h.2⟩
  |split
theorem zo {b:Bool} {op:BinOp} {x:SV} {k k':SV→Prop} (hk:∀ v,k v→k' v):qY b op x k→qY b op x k':=by
 unfold qY
 repeat' first
  |exact hk _
  |exact id
  |refine iV ?_
  |split
theorem B7 {op:UnOp} {x:SV} {k k':SV→Prop} (hk:∀ v,k v→k' v):zO op x k→zO op x k':=by
 unfold zO
 repeat' first
  |exact hk _
  |exact id
  |split
theorem sQ {e:TI} {s:SV} {ys:List SV} {k k':SV→List ax→Prop} (hk:∀ x H',k x H'→k' x H'):eC H e s ys k→eC H e s ys k':=by
 unfold eC
 repeat' first
  |exact hk _ _
  |exact fun h=>h.elim (fun h=> .inl ⟨h.1,hk _ _ h.2⟩) (fun h=> .inr ⟨h.1,h.2.1,hk _ _ h.2.2⟩)
  |exact id
  |refine jN fun _=>?_
  |refine iV ?_
  |split
theorem qH {b:Builtin} {args:List Operand} {tys:List Nat} {k k':SV→List ax→Prop} (hk:∀ x H',k x H'→k' x H'):dO T G env H b args tys k→dO T G env H b args tys k':=by
 unfold dO
 repeat' first
  |exact hk _ _
  |exact id
  |refine jN fun _=>?_
  |refine iV ?_
  |exact sQ hk
  |split
theorem tw {dst:Option Nat} {ty:Nat} {op:Op} {k k':SV→List ax→Prop} (hk:∀ x H',k x H'→k' x H'):cH P G T own env H dst ty op k→cH P G T own env H dst ty op k':=by
 unfold cH
 repeat' first
  |exact hk _ _
  |exact id
  |refine jN fun _=>?_
  |refine iV ?_
  |refine EU ?_ ?_
  |exact zo fun _=>hk _ _
  |exact yJ fun _=>hk _ _
  |exact B7 fun _=>hk _ _
  |exact qH hk
  |exact fun h=>bz.mono h fun _ _=>hk _ _
  |split
end
end
section
inductive It where
 |code (c:Code)
 |ops (all l:List Oper)
 |pred (K:Env→List ax→Prop)
 |ee (id:Nat)
def AV (C:Cx) (T:aT) (rs:List ResultVar) (R:SV→List ax→Prop) (env:Env) (H:List ax):Prop:=
 ∃ xs,hZ T env H rs=some xs∧Fin C H (bq xs) R
def Fits (all:List Oper) (i:Nat) (l:List Oper) (a:Act):Prop:=
 l=all.drop i∨∃ o r,all.drop i=o::r∧l=⟨o.dst,o.op,o.type,o.pos,o.after,none⟩::r∧Region.wanted o (yielded ⟨all⟩ a.tmps)=true
def OW (P:Program) (G:Gl) (T:aT) (nt:Nat) (ρ:Option Nat) (C:Cx) (all l:List Oper) (K:Exit→St→Prop) (env:Env) (H:List ax):Prop:=
 aq P T→∀ (i:Nat) (c:Cx) (a:Act),Fits all i l a→c.H=H→Inv G nt C.w.heap.size c env a→Grow C c→
  wpOpsIn (FR ρ) 0 P ⟨all⟩ (fun e a' w'=>∃ s' c',K e s'∧c'.H=s'.H∧c'.w=w'∧Inv G nt C.w.heap.size c' s'.env a'∧Grow C c') (List.range' i l.length) a c.w
def Out (P:Program) (G:Gl) (T:aT) (own:List Nat) (nt:Nat) (ρ:Option Nat) (C:Cx) (rs:List ResultVar) (R:SV→List ax→Prop):List It→Exit→Env→List ax→Prop
 |[],.normal,env,H=>AV C T rs R env H
 |[],.ret,env,H=>AV C T rs R env H
 |[],_,_,_=>False
 | .code c::k,.normal,env,H=>dV P G nt ρ C c (fun e s=>Out P G T own nt ρ C rs R k e s.env s.H) ⟨env,H⟩
 | .ops all l::k,.normal,env,H=>OW P G T nt ρ C all l (fun e s=>Out P G T own nt ρ C rs R k e s.env s.H) env H
 | .pred K::k,.normal,env,H=>∃ env',ij env' env∧K env' H
 | .ee _::k,.normal,env,H=>Out P G T own nt ρ C rs R k .normal env H
 | .ee id::k,.exit id',env,H=>if id'=id then Out P G T own nt ρ C rs R k .normal env H else Out P G T own nt ρ C rs R k (.exit id') env H
 |_::k,e,env,H=>Out P G T own nt ρ C rs R k e env H
def Io (id:Nat):List It→Option (List It)
 |[]=>none
 | .ee id'::k=>bif Nat.beq id id' then some k else Io id k
 |_::k=>Io id k
section
variable {P:Program} {G:Gl} {T:aT} {own:List Nat} {nt B:Nat} {ρ:Option Nat} {C:Cx} {rs:List ResultVar} {R:SV→List ax→Prop} {env env2:Env} {H H':List ax} {k:List It}
theorem jE (h:ij env env2):∀ {l:List ResultVar},hZ T env H l=hZ T env2 H l
 |[]=>rfl
 | .tmp t::r=>by simp only[hZ,h t,jE h (l:=r)]
 | .cell t ty::r=>by simp only[hZ,h t,jE h (l:=r)]
def Same (o' o:Oper):Prop:=o'.dst=o.dst∧o'.op=o.op∧o'.type=o.type
theorem OW.nil {all:List Oper} {K:Exit→St→Prop} (h:K .normal ⟨env,H⟩):OW P G T nt ρ C all [] K env H:=fun hT i c a hi hc hinv hg=>⟨⟨env,H⟩,c,h,hc,rfl,hinv,hg⟩
theorem OW.step {all r:List Oper} {o:Oper} {K:Exit→St→Prop} (h:aq P T→∀ (c:Cx) (a:Act) (o':Oper),Same o' o→(o'=o∨(o.guard=none∧Region.wanted o' (yielded ⟨all⟩ a.tmps)=true))→c.H=H→Inv G nt C.w.heap.size c env a→Grow C c→∀ next:Act→World→Prop,
 (∀ env' c' a',Inv G nt C.w.heap.size c' env' a'→Grow c c'→OW P G T nt ρ C all r K env' c'.H→next a' c'.w)→
 if Region.wanted o' (yielded ⟨all⟩ a.tmps) then o'.wpIn (FR ρ) 0 P a c.w next (fun e a' w'=>∃ s' c',K e s'∧c'.H=s'.H∧c'.w=w'∧Inv G nt C.w.heap.size c' s'.env a'∧Grow C c') else (∀ f,o'.about P c.w a.eval=some f→(FR ρ).fn f)∧next (a.put o'.dst undef) c.w):
 OW P G T nt ρ C all (o::r) K env H:=by
 intro hT i c a hi hc hinv hg
 have key:∃ o',all.drop i=o'::r∧Same o' o∧(o'=o∨(o.guard=none∧Region.wanted o' (yielded ⟨all⟩ a.tmps)=true)):=by
  rcases hi with hi|⟨o',r',h1,h2,h3⟩
  ·exact⟨o,hi.symm,⟨rfl,rfl,rfl⟩,.inl rfl⟩
  ·cases h2;exact⟨o',h1,⟨rfl,rfl,rfl⟩,.inr ⟨rfl,h3⟩⟩
 obtain⟨o',hd,hs,ho⟩:=key
 have h1:(⟨all⟩:Array Oper)[i]? =some o':=by
  have:=congrArg (fun l=>l[0]?) hd
  simpa using this
 have h2:r=all.drop (i+1):=by
  have:=congrArg List.tail hd
  simpa using this.symm
 simp only[List.length_cons,List.range'_succ,wpOpsIn,h1]
 exact h hT c a o' hs ho hc hinv hg _ fun env' c' a' k1 k2 k3=>k3 hT (i+1) c' a' (.inl h2) rfl k1 (hg.trans k2)
theorem OW.run {all r:List Oper} {o:Oper} {K:Exit→St→Prop} (hw:∀ (c:Cx) (a:Act),c.H=H→Inv G nt C.w.heap.size c env a→Region.wanted o (yielded ⟨all⟩ a.tmps)=true)
 (h:cH P G T own env H o.dst o.type o.op fun x H'=>j5 nt o.dst x env fun env'=>OW P G T nt ρ C all r K env' H'):OW P G T nt ρ C all (o::r) K env H:=
 OW.step fun hT c a o' hs ho hc hinv hg next hn=>by
  subst hc
  have hwant:Region.wanted o' (yielded ⟨all⟩ a.tmps)=true:=by
   rcases ho with rfl|ho
   ·exact hw c a rfl hinv
   ·exact ho.2
  rw[if_pos hwant]
  obtain⟨s1,s2,s3⟩:=hs
  rw[← s1,← s2,← s3] at h
  refine u7 hT hinv h fun x c' u e1 e2 e3 e4=>?_
  cases hd:o'.dst with
  |none=>
   rw[hd] at e1
   exact hn env c' _ (hinv.jA e4 e2) e4 e1
  |some d=>
   rw[hd] at e1
   exact hn _ c' _ (hinv.put e4 e2 e3 e1.1) e4 e1.2
theorem OW.cons {all r:List Oper} {o:Oper} {K:Exit→St→Prop} (hg:o.guard=none) (h:cH P G T own env H o.dst o.type o.op fun x H'=>j5 nt o.dst x env fun env'=>OW P G T nt ρ C all r K env' H'):OW P G T nt ρ C all (o::r) K env H:=
 OW.run (fun c a _ _=>by simp only[Region.wanted,hg]) h
theorem OW.Ly {all r:List Oper} {o:Oper} {K:Exit→St→Prop} {j dj:Nat} {want:Bool} (hg:o.guard=some (j,want)) (h1:(all[j]?).bind (·.dst)=some dj) (h2:look env dj=some (.bool want)) (h:OW P G T nt ρ C all (⟨o.dst,o.op,o.type,o.pos,o.after,none⟩::r) K env H):OW P G T nt ρ C all (o::r) K env H:=by
 intro hT i c a hi hc hinv hgr
 refine h hT i c a (.inr ⟨o,r,?_,rfl,?_⟩) hc hinv hgr
 ·rcases hi with hi|⟨o',r',e1,e2,e3⟩
  ·exact hi.symm
  ·cases e2;cases hg
 ·simp only[Region.wanted,hg,kg hinv (ops:=⟨all⟩) h1 h2 rfl,beq_self_eq_true]
theorem OW.GK {all r:List Oper} {o:Oper} {K:Exit→St→Prop} {j dj:Nat} {want:Bool} {v:SV} {g:Option Bool} (hg:o.guard=some (j,want)) (h1:(all[j]?).bind (·.dst)=some dj) (h2:look env dj=some v) (h3:uD v=some g) (hgw:(g==some want)=false)
 (hs:j5 nt o.dst .undef env fun env'=>OW P G T nt ρ C all r K env' H):OW P G T nt ρ C all (o::r) K env H:=by
 refine OW.step fun hT c a o' hs' ho hc hinv hgr next hn=>?_
 have ho':o'=o:=by
  rcases ho with ho|ho
  ·exact ho
  ·rw[hg] at ho;cases ho.1
 subst ho'
 subst hc
 rw[if_neg (by simp only[Region.wanted,hg,kg hinv (ops:=⟨all⟩) h1 h2 h3,hgw];simp)]
 refine⟨fun _ _=>trivial,?_⟩
 cases hd:o'.dst with
 |none=>rw[hd] at hs;exact hn env c _ (hinv.jA (Grow.refl c) hinv.heap) (Grow.refl c) hs
 |some d=>rw[hd] at hs;exact hn _ c _ (hinv.put (Grow.refl c) hinv.heap aG.undef hs.1) (Grow.refl c) hs.2
theorem OW.law {all r:List Oper} {o:Oper} {K:Exit→St→Prop} {R0:SV→List ax→Prop} {d:Nat} (hg:o.guard=none) (hd:o.dst=some d) (hdn:Nat.blt d nt=true)
 (h:aq P T→∀ (c:Cx) (a:Act) (o':Oper),Same o' o→c.H=H→Inv G nt C.w.heap.size c env a→Grow C c→∀ (next:Act→World→Prop) (Q:Exit→Act→World→Prop),(∀ x c' u,R0 x c'.H→aO c'→aG c' x u→Grow c c'→next (a.put (some d) u) c'.w)→o'.wpIn (FR ρ) 0 P a c.w next Q)
 (hk:∀ x H',R0 x H'→OW P G T nt ρ C all r K ((d,x)::env) H'):OW P G T nt ρ C all (o::r) K env H:=
 OW.step fun hT c a o' hs ho hc hinv hgr next hn=>by
  have hwant:Region.wanted o' (yielded ⟨all⟩ a.tmps)=true:=by
   rcases ho with rfl|ho
   ·simp only[Region.wanted,hg]
   ·exact ho.2
  rw[if_pos hwant]
  have hdn':d<nt:=by have:=Nat.blt_eq ▸ hdn;exact this
  exact h hT c a o' hs hc hinv hgr next _ fun x c' u e1 e2 e3 e4=>hn _ c' _ (hinv.put e4 e2 e3 hdn') e4 (hk x c'.H e1)
theorem OW.o8 {all l:List Oper} {K:Exit→St→Prop} (he:ij env env2) (h:OW P G T nt ρ C all l K env H):OW P G T nt ρ C all l K env2 H:=fun hT i c a hi hc hinv hg=>
 h hT i c a hi hc ⟨hinv.heap,hinv.gn,hinv.size,fun t x hx=>hinv.env t x (by rw[← he t];exact hx),hinv.gm⟩ hg
theorem Out.o8:∀ {k:List It} {e:Exit} {env env2:Env} {H:List ax},ij env env2→(Out P G T own nt ρ C rs R) k e env H→(Out P G T own nt ρ C rs R) k e env2 H
 |[],e,env,env2,H,he,h=>by
  have hr:AV C T rs R env H→AV C T rs R env2 H:=fun⟨xs,h1,h2⟩=>⟨xs,by rw[← jE he];exact h1,h2⟩
  cases e with
  |normal=>exact hr h
  |ret=>exact hr h
  |_=>exact h
 | .code c::k,e,env,env2,H,he,h=>by
  cases e with
  |normal=>exact dV.wk (Wk.env (fun t x hx=>by rw[← he t];exact hx)) h
  |_=>exact Out.o8 (k:=k) he h
 | .ops all l::k,e,env,env2,H,he,h=>by
  cases e with
  |normal=>exact OW.o8 he h
  |_=>exact Out.o8 (k:=k) he h
 | .pred K::k,e,env,env2,H,he,h=>by
  cases e with
  |normal=>obtain⟨env',h1,h2⟩:=h;exact⟨env',h1.trans he,h2⟩
  |_=>exact Out.o8 (k:=k) he h
 | .ee id::k,e,env,env2,H,he,h=>by
  cases e with
  |normal=>exact Out.o8 (k:=k) he h
  |exit id'=>
   simp only[Out] at h ⊢
   split
   ·rename_i hh;rw[if_pos hh] at h;exact Out.o8 he h
   ·rename_i hh;rw[if_neg hh] at h;exact Out.o8 he h
  |_=>exact Out.o8 (k:=k) he h
theorem Hw {x y:Code} (h:(Out P G T own nt ρ C rs R) (.code x:: .code y::k) .normal env H):(Out P G T own nt ρ C rs R) (.code (.seq x y)::k) .normal env H:=by
 refine dV.seq (dV.mono h ?_)
 rintro e ⟨env',H'⟩ h'
 cases e with
 |normal=>exact h'
 |_=>exact h'
theorem FD (h:(Out P G T own nt ρ C rs R) k .normal env H):(Out P G T own nt ρ C rs R) (.code .skip::k) .normal env H:=dV.skip h
theorem De {l:Nat} (h:(Out P G T own nt ρ C rs R) k .normal env H):(Out P G T own nt ρ C rs R) (.code (.label l)::k) .normal env H:=fun c a hc hi hg=>wpIn_label ⟨⟨env,H⟩,c,h,hc,rfl,hi,hg⟩
theorem Out.Ef (h:AV C T rs R env H):∀ {k:List It},(Out P G T own nt ρ C rs R) k .ret env H
 |[]=>h
 | .code _::k=>Out.Ef (k:=k) h
 | .ops _ _::k=>Out.Ef (k:=k) h
 | .pred _::k=>Out.Ef (k:=k) h
 | .ee _::k=>Out.Ef (k:=k) h
theorem Hv {xs:List SV} (h1:hZ T env H rs=some xs) (h:Fin C H (bq xs) R):(Out P G T own nt ρ C rs R) (.code .ret::k) .normal env H:=dV.ret (Out.Ef ⟨xs,h1,h⟩)
theorem Hr {xs:List SV} (h1:hZ T env H rs=some xs) (h:Fin C H (bq xs) R):(Out P G T own nt ρ C rs R) [] .normal env H:=⟨xs,h1,h⟩
theorem Out.xd {id:Nat}:∀ {k k':List It},Io id k=some k'→(Out P G T own nt ρ C rs R) k' .normal env H→(Out P G T own nt ρ C rs R) k (.exit id) env H
 |[],k',hu,h=>by cases hu
 | .ee id'::k,k',hu,h=>by
  simp only[Io] at hu
  simp only[Out]
  by_cases hid:id=id'
  ·rw[if_pos hid]
   subst hid
   rw[show Nat.beq id id=true from Nat.beq_refl id] at hu
   cases hu;exact h
  ·rw[if_neg hid]
   have:Nat.beq id id'=false:=by
    cases hb:Nat.beq id id' with
    |false=>rfl
    |true=>exact(hid (Nat.eq_of_beq_eq_true hb)).elim
   rw[this] at hu
   exact Out.xd hu h
 | .code _::k,k',hu,h=>Out.xd (k:=k) hu h
 | .ops _ _::k,k',hu,h=>Out.xd (k:=k) hu h
 | .pred _::k,k',hu,h=>Out.xd (k:=k) hu h
theorem Fy {id:Nat} {k':List It} (hu:Io id k=some k') (h:(Out P G T own nt ρ C rs R) k' .normal env H):(Out P G T own nt ρ C rs R) (.code (.exit id)::k) .normal env H:=dV.exit (Out.xd hu h)
theorem Hq {id:Nat} (h:(Out P G T own nt ρ C rs R) k .normal env H):(Out P G T own nt ρ C rs R) (.ee id::k) .normal env H:=h
theorem Da {id:Nat} {x:Code} (h:(Out P G T own nt ρ C rs R) (.code x:: .ee id::k) .normal env H):(Out P G T own nt ρ C rs R) (.code (.block id x)::k) .normal env H:=by
 refine dV.block (dV.mono h ?_)
 rintro e ⟨env',H'⟩ h'
 cases e with
 |exit id'=>exact h'
 |_=>exact h'
theorem FC {K:Env→List ax→Prop} (h:K env H):(Out P G T own nt ρ C rs R) (.pred K::k) .normal env H:=⟨env,ij.refl _,h⟩
theorem Bn (hT:aq P T) {id:Nat} {ops:Array Oper} {l:List Oper} (hl:ops=⟨l⟩) (h:(Out P G T own nt ρ C rs R) (.ops l l::k) .normal env H):(Out P G T own nt ρ C rs R) (.code (.region id ops false)::k) .normal env H:=by
 subst hl
 intro c a hc hi hg
 refine wpIn_region ?_
 rw[List.range_eq_range']
 exact h hT 0 c a (.inl rfl) hc hi hg
theorem Df {all:List Oper} (h:(Out P G T own nt ρ C rs R) k .normal env H):(Out P G T own nt ρ C rs R) (.ops all []::k) .normal env H:=OW.nil h
theorem np {t:Nat} {p q:Code} (h1:look env t=some (.bool true)) (h:(Out P G T own nt ρ C rs R) (.code p::k) .normal env H):(Out P G T own nt ρ C rs R) (.code (.cond (.tmp t) p q)::k) .normal env H:=
 dV.cond ⟨_,h1,true,rfl,And.intro (fun _=>h) (fun e=>by cases e)⟩
theorem kY {t:Nat} {p q:Code} (h1:look env t=some (.bool false)) (h:(Out P G T own nt ρ C rs R) (.code q::k) .normal env H):(Out P G T own nt ρ C rs R) (.code (.cond (.tmp t) p q)::k) .normal env H:=
 dV.cond ⟨_,h1,false,rfl,And.intro (fun e=>by cases e) (fun _=>h)⟩
theorem qT {t:Nat} {p q:Code} {b:Bool} (h1:look env t=some (.bool b)) (h:b=true→(Out P G T own nt ρ C rs R) (.code p::k) .normal ((t,.bool true)::env) H) (h':b=false→(Out P G T own nt ρ C rs R) (.code q::k) .normal ((t,.bool false)::env) H):(Out P G T own nt ρ C rs R) (.code (.cond (.tmp t) p q)::k) .normal env H:=
 dV.cond ⟨_,h1,b,rfl,And.intro (fun e=>Out.o8 (k:= .code p::k) (ij.lD (e ▸ h1)) (h e)) (fun e=>Out.o8 (k:= .code q::k) (ij.lD (e ▸ h1)) (h' e))⟩
theorem qU {t:Nat} {p q:Code} {a:Prop} {inst:Decidable a} (h1:look env t=some (.bool (decide a))) (h:a→(Out P G T own nt ρ C rs R) (.code p::k) .normal ((t,.bool true)::env) H) (h':¬ a→(Out P G T own nt ρ C rs R) (.code q::k) .normal ((t,.bool false)::env) H):(Out P G T own nt ρ C rs R) (.code (.cond (.tmp t) p q)::k) .normal env H:=
 qT h1 (fun e=>h (of_decide_eq_true e)) (fun e=>h' (of_decide_eq_false e))
theorem dP {t:Nat} {p q:Code} {a:Prop} {inst:Decidable a} (h1:look env t=some (.bool (decide a))) (ha:a) (h:(Out P G T own nt ρ C rs R) (.code p::k) .normal ((t,.bool true)::env) H):(Out P G T own nt ρ C rs R) (.code (.cond (.tmp t) p q)::k) .normal env H:=
 qU h1 (fun _=>h) (fun e=>(e ha).elim)
theorem cP {t:Nat} {p q:Code} {a:Prop} {inst:Decidable a} (h1:look env t=some (.bool (decide a))) (ha:¬ a) (h:(Out P G T own nt ρ C rs R) (.code q::k) .normal ((t,.bool false)::env) H):(Out P G T own nt ρ C rs R) (.code (.cond (.tmp t) p q)::k) .normal env H:=
 qU h1 (fun e=>(ha e).elim) (fun _=>h)
section
variable {all r:List Oper} {ty d j dj:Nat} {op:Op} {pos:String} {after:Array Edge} {v:SV} {want:Bool}
theorem IN (h:qv G T own env H (some d) ty op=some v) (hd:Nat.blt d nt=true) (hk:(Out P G T own nt ρ C rs R) (.ops all r::k) .normal ((d,v)::env) H):(Out P G T own nt ρ C rs R) (.ops all (⟨some d,op,ty,pos,after,none⟩::r)::k) .normal env H:=
 OW.cons rfl (tT (k:=fun x H'=>j5 nt (some d) x env fun env'=>OW P G T nt ρ C all r (fun e s=>Out P G T own nt ρ C rs R k e s.env s.H) env' H') h ⟨by have:=Nat.blt_eq ▸ hd;exact this,hk⟩)
theorem IP (h:qv G T own env H none ty op=some v) (hk:(Out P G T own nt ρ C rs R) (.ops all r::k) .normal env H):(Out P G T own nt ρ C rs R) (.ops all (⟨none,op,ty,pos,after,none⟩::r)::k) .normal env H:=
 OW.cons rfl (tT (k:=fun x H'=>j5 nt none x env fun env'=>OW P G T nt ρ C all r (fun e s=>Out P G T own nt ρ C rs R k e s.env s.H) env' H') h hk)
theorem LA (h:lv G T own env H (some d) ty op=some (v,H')) (hd:Nat.blt d nt=true) (hk:(Out P G T own nt ρ C rs R) (.ops all r::k) .normal ((d,v)::env) H'):(Out P G T own nt ρ C rs R) (.ops all (⟨some d,op,ty,pos,after,none⟩::r)::k) .normal env H:=
 OW.cons rfl (xE (k:=fun x H'=>j5 nt (some d) x env fun env'=>OW P G T nt ρ C all r (fun e s=>Out P G T own nt ρ C rs R k e s.env s.H) env' H') h ⟨by have:=Nat.blt_eq ▸ hd;exact this,hk⟩)
theorem IM (h:lv G T own env H none ty op=some (v,H')) (hk:(Out P G T own nt ρ C rs R) (.ops all r::k) .normal env H'):(Out P G T own nt ρ C rs R) (.ops all (⟨none,op,ty,pos,after,none⟩::r)::k) .normal env H:=
 OW.cons rfl (xE (k:=fun x H'=>j5 nt none x env fun env'=>OW P G T nt ρ C all r (fun e s=>Out P G T own nt ρ C rs R k e s.env s.H) env' H') h hk)
theorem Ar {dst:Option Nat} (h1:(all[j]?).bind (·.dst)=some dj) (h2:look env dj=some (.bool want)) (hk:(Out P G T own nt ρ C rs R) (.ops all (⟨dst,op,ty,pos,after,none⟩::r)::k) .normal env H):(Out P G T own nt ρ C rs R) (.ops all (⟨dst,op,ty,pos,after,some (j,want)⟩::r)::k) .normal env H:=
 OW.Ly rfl h1 h2 hk
theorem nq {v:SV} {b:Option Bool} (h1:(all[j]?).bind (·.dst)=some dj) (h2:look env dj=some v) (h3:uD v=some b) (hb:(b==some want)=false) (hd:Nat.blt d nt=true) (hk:(Out P G T own nt ρ C rs R) (.ops all r::k) .normal ((d,.undef)::env) H):(Out P G T own nt ρ C rs R) (.ops all (⟨some d,op,ty,pos,after,some (j,want)⟩::r)::k) .normal env H:=
 OW.GK rfl h1 h2 h3 hb ⟨by have:=Nat.blt_eq ▸ hd;exact this,hk⟩
theorem Bl {v:SV} {b:Option Bool} (h1:(all[j]?).bind (·.dst)=some dj) (h2:look env dj=some v) (h3:uD v=some b) (hb:(b==some want)=false) (hk:(Out P G T own nt ρ C rs R) (.ops all r::k) .normal env H):(Out P G T own nt ρ C rs R) (.ops all (⟨none,op,ty,pos,after,some (j,want)⟩::r)::k) .normal env H:=
 OW.GK rfl h1 h2 h3 hb hk
theorem GM {o:Oper} {b:Bool} (hg:o.guard=some (j,want)) (h1:(all[j]?).bind (·.dst)=some dj) (h2:look env dj=some (.bool b)) (h:b=true→(Out P G T own nt ρ C rs R) (.ops all (o::r)::k) .normal ((dj,.bool true)::env) H) (h':b=false→(Out P G T own nt ρ C rs R) (.ops all (o::r)::k) .normal ((dj,.bool false)::env) H):(Out P G T own nt ρ C rs R) (.ops all (o::r)::k) .normal env H:=by
 cases b with
 |true=>exact Out.o8 (k:= .ops all (o::r)::k) (ij.lD h2) (h rfl)
 |false=>exact Out.o8 (k:= .ops all (o::r)::k) (ij.lD h2) (h' rfl)
theorem IK {o:Oper} {a:Prop} {inst:Decidable a} (hg:o.guard=some (j,want)) (h1:(all[j]?).bind (·.dst)=some dj) (h2:look env dj=some (.bool (decide a))) (h:a→(Out P G T own nt ρ C rs R) (.ops all (o::r)::k) .normal ((dj,.bool true)::env) H) (h':¬ a→(Out P G T own nt ρ C rs R) (.ops all (o::r)::k) .normal ((dj,.bool false)::env) H):(Out P G T own nt ρ C rs R) (.ops all (o::r)::k) .normal env H:=
 GM hg h1 h2 (fun e=>h (of_decide_eq_true e)) (fun e=>h' (of_decide_eq_false e))
theorem Dc {b:Bool} (h1:(all[j]?).bind (·.dst)=some dj) (h2:look env dj=some (.bool b)) (hv:b=want→qv G T own env H (some d) ty op=some v) (hd:Nat.blt d nt=true) (hk:(Out P G T own nt ρ C rs R) (.ops all r::k) .normal ((d,gv b want v)::env) H):(Out P G T own nt ρ C rs R) (.ops all (⟨some d,op,ty,pos,after,some (j,want)⟩::r)::k) .normal env H:=by
 by_cases hw:b=want
 ·subst hw
  rw[gp] at hk
  exact Ar h1 h2 (IN (hv rfl) hd hk)
 ·have e:gv b want v= .undef:=by cases b<;>cases want<;>first|rfl|exact(hw rfl).elim
  rw[e] at hk
  exact nq h1 h2 rfl (by cases b<;>cases want<;>first|rfl|exact(hw rfl).elim) hd hk
theorem Dd {b b1 w1:Bool} (h1:(all[j]?).bind (·.dst)=some dj) (h2:look env dj=some (gv b1 w1 (.bool b))) (hv:b1=w1→b=want→qv G T own env H (some d) ty op=some v) (hd:Nat.blt d nt=true) (hk:(Out P G T own nt ρ C rs R) (.ops all r::k) .normal ((d,gv b1 w1 (gv b want v))::env) H):(Out P G T own nt ρ C rs R) (.ops all (⟨some d,op,ty,pos,after,some (j,want)⟩::r)::k) .normal env H:=by
 by_cases hw:b1=w1
 ·subst hw
  rw[gp] at hk h2
  exact Dc h1 h2 (hv rfl) hd hk
 ·have e:∀ x,gv b1 w1 x= .undef:=fun x=>by cases b1<;>cases w1<;>first|rfl|exact(hw rfl).elim
  rw[e] at hk h2
  exact nq h1 h2 rfl rfl hd hk
theorem Ht {b b1 w1 b2 w2:Bool} (h1:(all[j]?).bind (·.dst)=some dj) (h2:look env dj=some (gv b1 w1 (gv b2 w2 (.bool b)))) (hv:b1=w1→b2=w2→b=want→qv G T own env H (some d) ty op=some v) (hd:Nat.blt d nt=true) (hk:(Out P G T own nt ρ C rs R) (.ops all r::k) .normal ((d,gv b1 w1 (gv b2 w2 (gv b want v)))::env) H):(Out P G T own nt ρ C rs R) (.ops all (⟨some d,op,ty,pos,after,some (j,want)⟩::r)::k) .normal env H:=by
 by_cases hw:b1=w1
 ·subst hw
  rw[gp] at hk h2
  exact Dd h1 h2 (hv rfl) hd hk
 ·have e:∀ x,gv b1 w1 x= .undef:=fun x=>by cases b1<;>cases w1<;>first|rfl|exact(hw rfl).elim
  rw[e] at hk h2
  exact nq h1 h2 rfl rfl hd hk
theorem IL {o:Oper} {b1 w1:Bool} {u:SV} (hg:o.guard=some (j,want)) (h1:(all[j]?).bind (·.dst)=some dj) (h2:look env dj=some (gv b1 w1 u)) (h:∀ c,b1=c→(Out P G T own nt ρ C rs R) (.ops all (o::r)::k) .normal env H):(Out P G T own nt ρ C rs R) (.ops all (o::r)::k) .normal env H:=h _ rfl
def nX (H:List ax):SV→Option Nat
 | .list _ xs=>some xs.length
 | .sl id g _ n=>match cL H id g with
  |some _=>some n
  |none=>none
 |_=>none
theorem lO {dst:Option Nat} {x y:Operand} {X:SV} {t yt ty n:Nat} {eq:Bool} {kk:SV→List ax→Prop} (h1:ev G env x=some X) (h2:ev G env y=some .nil) (h3:eZ T t=2) (h4:nX H X=some n)
 (l:n=0→kk (.bool eq) H) (r:kk (.bool (!eq)) H):cH P G T own env H dst ty (.binOp (if eq then .eql else .neq) t x y yt) kk:=by
 refine⟨X,h1,.nil,h2,fun hi=>?_,fun _=>?_⟩
 ·exfalso
  unfold mG at hi
  split at hi
  ·simp[ev,aQ,aR] at h2
  ·cases hi
 unfold nX at h4
 split at h4
 ·cases h4
  cases eq
  ·exact⟨h3,fun e=>l (by rw[e];rfl),r⟩
  ·exact⟨h3,fun e=>l (by rw[e];rfl),r⟩
 ·split at h4
  ·rename_i q hq
   cases h4
   cases eq
   ·exact⟨q,hq,h3,l,r⟩
   ·exact⟨q,hq,h3,l,r⟩
  ·cases h4
 ·cases h4
theorem FA {x y:Operand} {X:SV} {t yt n:Nat} (h1:ev G env x=some X) (h2:ev G env y=some .nil) (h3:eZ T t=2) (h4:nX H X=some n) (hd:Nat.blt d nt=true)
 (h:n=0→(Out P G T own nt ρ C rs R) (.ops all r::k) .normal ((d,.bool true)::env) H) (h':True→(Out P G T own nt ρ C rs R) (.ops all r::k) .normal ((d,.bool false)::env) H):(Out P G T own nt ρ C rs R) (.ops all (⟨some d,.binOp .eql t x y yt,ty,pos,after,none⟩::r)::k) .normal env H:=
 OW.cons rfl (lO (P:=P) (own:=own) (dst:=some d) (ty:=ty) (yt:=yt) (eq:=true) (kk:=fun x H'=>j5 nt (some d) x env fun env'=>OW P G T nt ρ C all r (fun e s=>Out P G T own nt ρ C rs R k e s.env s.H) env' H') h1 h2 h3 h4 (fun e=>⟨by have:=Nat.blt_eq ▸ hd;exact this,h e⟩) ⟨by have:=Nat.blt_eq ▸ hd;exact this,h' trivial⟩)
theorem FB {x y:Operand} {X:SV} {t yt n:Nat} (h1:ev G env x=some X) (h2:ev G env y=some .nil) (h3:eZ T t=2) (h4:nX H X=some n) (hd:Nat.blt d nt=true)
 (h:n=0→(Out P G T own nt ρ C rs R) (.ops all r::k) .normal ((d,.bool false)::env) H) (h':True→(Out P G T own nt ρ C rs R) (.ops all r::k) .normal ((d,.bool true)::env) H):(Out P G T own nt ρ C rs R) (.ops all (⟨some d,.binOp .neq t x y yt,ty,pos,after,none⟩::r)::k) .normal env H:=
 OW.cons rfl (lO (P:=P) (own:=own) (dst:=some d) (ty:=ty) (yt:=yt) (eq:=false) (kk:=fun x H'=>j5 nt (some d) x env fun env'=>OW P G T nt ρ C all r (fun e s=>Out P G T own nt ρ C rs R k e s.env s.H) env' H') h1 h2 h3 h4 (fun e=>⟨by have:=Nat.blt_eq ▸ hd;exact this,h e⟩) ⟨by have:=Nat.blt_eq ▸ hd;exact this,h' trivial⟩)
variable {R':SV→List ax→Prop} {xs:List SV} {f:Operand} {fv:SV} {args:Array Operand} {tys:Array Nat} {g:FuncId}
theorem nk (h1:ev G env f=some fv) (h2:jb G env args.toList=some xs) (hd:Nat.blt d nt=true) (hc:bz P G fv xs H R') (hk:∀ x H',R' x H'→(Out P G T own nt ρ C rs R) (.ops all r::k) .normal ((d,x)::env) H'):(Out P G T own nt ρ C rs R) (.ops all (⟨some d,.call ⟨.value f,args,tys⟩,ty,pos,after,none⟩::r)::k) .normal env H:=
 OW.cons (own:=own) rfl ⟨fv,h1,xs,h2,hc.mono fun x H' hr=>⟨by have:=Nat.blt_eq ▸ hd;exact this,hk x H' hr⟩⟩
theorem pP (h2:jb G env args.toList=some xs) (hd:Nat.blt d nt=true) (hc:af P G g xs H R') (hk:∀ x H',R' x H'→(Out P G T own nt ρ C rs R) (.ops all r::k) .normal ((d,x)::env) H'):(Out P G T own nt ρ C rs R) (.ops all (⟨some d,.call ⟨.value (.func g),args,tys⟩,ty,pos,after,none⟩::r)::k) .normal env H:=
 nk rfl h2 hd (bz.of (by simpa using hc)) hk
end
theorem dV.GU {c:Code} {Q Q':Exit→St→Prop} {s:St} (h:dV P G nt ρ C c Q s) (hq:∀ e s',Q e s'→∃ s2,Wk G nt C s' s2∧Q' e s2):dV P G nt ρ C c Q' s:=by
 intro c' a hc hi hg
 refine wpIn_mono (h c' a hc hi hg) ?_
 rintro e a' w' ⟨s',c2,h1,h2,h3,h4,h5⟩
 obtain⟨s2,h6,h7⟩:=hq e s' h1
 obtain⟨c3,e1,e2,e3,e4⟩:=h6 c2 a' h2 h4 h5
 exact⟨s2,c3,h7,e1,e2.trans h3,e3,e4⟩
theorem dQ {α:Type} (E:α→Env) (M:α→List ax) (I:α→Prop) {c:Code} (h1:∀ K,mv (∀ env' H' a,I a→Wk G nt C ⟨env',H'⟩ ⟨E a,M a⟩→K env' H')→(Out P G T own nt ρ C rs R) (.code c:: .pred K::k) .normal env H) (h2:∀ a,I a→(Out P G T own nt ρ C rs R) k .normal (E a) (M a)):(Out P G T own nt ρ C rs R) (.code c::k) .normal env H:=by
 have h:=h1 (fun env' H'=>∃ a,I a∧Wk G nt C ⟨env',H'⟩ ⟨E a,M a⟩) (fun env' H' a h3 h4=>⟨a,h3,h4⟩)
 refine dV.GU h ?_
 rintro e ⟨env',H'⟩ h'
 cases e with
 |normal=>
  obtain⟨env2,he,a,h3,h4⟩:=h'
  refine⟨⟨E a,M a⟩,fun c' a' q1 q2 q3=>h4 c' a' q1 ⟨q2.heap,q2.gn,q2.size,fun t x hx=>q2.env t x (by rw[← he t];exact hx),q2.gm⟩ q3,h2 a h3⟩
 |_=>exact⟨_,Wk.refl _,h'⟩
theorem az {α:Type} (E:α→Env) (M:α→List ax) (μ:α→Nat) (I:α→Prop) (a0:α) {x:Code} (h0:I a0) (hs:Wk G nt C ⟨env,H⟩ ⟨E a0,M a0⟩)
 (round:∀ K a,I a→mv (∀ env' H' a',μ a'<μ a→I a'→Wk G nt C ⟨env',H'⟩ ⟨E a',M a'⟩→K env' H')→(Out P G T own nt ρ C rs R) (.code x:: .pred K::k) .normal (E a) (M a)):(Out P G T own nt ρ C rs R) (.code (.loop x)::k) .normal env H:=by
 refine dV.GR (fun m s=>∃ a,I a∧μ a=m∧s=⟨E a,M a⟩) (μ a0) ⟨E a0,M a0⟩ hs ⟨a0,h0,rfl,rfl⟩ ?_
 rintro m s ⟨a,h1,rfl,rfl⟩
 refine dV.mono (round (fun env' H'=>∃ m s2,m<μ a∧Wk G nt C ⟨env',H'⟩ s2∧∃ a,I a∧μ a=m∧s2=⟨E a,M a⟩) a h1 fun env' H' a' g1 g2 g3=>⟨μ a',⟨E a',M a'⟩,g1,g3,a',g2,rfl,rfl⟩) ?_
 rintro e ⟨env',H'⟩ h'
 cases e with
 |normal=>
  obtain⟨env2,he,m,s2,h3,h4,h5⟩:=h'
  exact⟨m,s2,h3,fun c' a' q1 q2 q3=>h4 c' a' q1 ⟨q2.heap,q2.gn,q2.size,fun t x hx=>q2.env t x (by rw[← he t];exact hx),q2.gm⟩ q3,h5⟩
 |_=>exact h'
theorem Fin.out {x:SV} {R0:SV→List ax→Prop} (hR:mv (∀ y H',R0 y H'→R y H')) (h:R0 x H):Fin C H x R:=Fin.same (hR _ _ h)
theorem Fin.mono {x:SV} {R':SV→List ax→Prop} (h:Fin C H x R') (hr:∀ y H',R' y H'→R y H'):Fin C H x R:=fun c v h1 h2 h3 h4=>
 let ⟨c',y,e1,e2,e3⟩:=h c v h1 h2 h3 h4
 ⟨c',y,e1,hr _ _ e2,e3⟩
theorem EZ {e:Exit} {env:Env} {H:List ax} (h:(Out P G T own nt ρ C rs R) [] e env H):Iw C T rs R e env H:=by
 cases e with
 |normal=>exact h
 |ret=>exact h
 |_=>exact h.elim
theorem af.aD (T:aT) (own:List Nat) (hT:aq P T) {f:FuncId} {fn:Func} {cd:Code} {args:List SV} {R:SV→List ax→Prop} {rs:List ResultVar} (nt:Nat) (hf:P.funcs[f]? =some fn) (hb:fn.body=some cd) (hname:(fn.name== "runtime.NumGoroutine")=false)
 (hnt:fn.ntmps=nt) (hlen:args.length≤nt) (hrs:fn.results=⟨rs⟩) {ie:Env} (hie:ap args 0=ie)
 (h:∀ (C:Cx) (R':SV→List ax→Prop),mv (∀ x H',R x H'→R' x H')→C.H=H→closed H→eS G C.H.length→Out P G T own nt none C rs R' [.code cd] .normal ie H):af P G f args H R:=
 af.D1 hT hf hb hname hnt hlen (by rw[hrs]) fun C h1 h2 h3=>hie ▸ dV.mono (h C R (fun _ _ h=>h) h1 h2 h3) fun e s h=>EZ h
end
theorem wU {p:Prop} [Decidable p]:(!decide p)=decide (¬ p):=by simp
end
section
def eQ (i:Nat):List Nat→Bool
 |[]=>false
 |j::r=>Nat.beq i j||eQ i r
theorem c8 {i:Nat}:∀ {l:List Nat},eQ i l=true↔i∈l
 |[]=>by simp[eQ]
 |j::r=>by
  simp only[eQ,Bool.or_eq_true,List.mem_cons,c8 (l:=r),Nat.beq_eq]
def FK (i:Nat) (l:List Nat):List Nat:=bif eQ i l then l else i::l
theorem xF {i j:Nat} {l:List Nat}:j∈FK i l→j=i∨j∈l:=by
 unfold FK
 cases h:eQ i l
 ·simp
 ·exact fun h=> .inr h
def Ib:List Nat→List Nat→List Nat
 |[],m=>m
 |i::r,m=>FK i (Ib r m)
theorem xH {j:Nat}:∀ {l m:List Nat},j∈Ib l m→j∈l∨j∈m
 |[],m,h=> .inr h
 |i::r,m,h=>by
  rcases xF h with rfl|h
  ·exact .inl (List.mem_cons_self ..)
  ·rcases xH h with h|h
   ·exact .inl (List.mem_cons_of_mem _ h)
   ·exact .inr h
def b8 (o:Oper):List Nat:=(o.after.toList.filter fun e=>Region.binds .any e).map (·.on)
def cT (l:List (List Nat)) (i:Nat):List Nat:=(l[i]?).getD []
def uK (tb:List (List Nat)):List Nat→List Nat
 |[]=>[]
 |i::r=>FK i (Ib (cT tb i) (uK tb r))
def yQ (tb:List (List Nat)):List Oper→List (List Nat)
 |[]=>tb
 |o::r=>yQ (tb++[uK tb (b8 o)]) r
def iT (ops:List Oper):List (List Nat):=yQ [] ops
def tmpsOf (all:List Oper) (o:Oper):List Nat:=
 (fJ o.op).filterMap (fun x=>match x with
  | .tmp t=>some t
  |_=>none)++(match o.guard with
  |some (j,_)=>((all[j]?).bind (·.dst)).toList
  |none=>[])
def vP (own:List Nat) (o:Oper):Bool:=
 o.dst.isSome&&match o.op with
 | .move _| .pick .. | .build .. | .load .. | .nilCheck _| .binOp .. | .unOp .. | .convert .. | .makeFunc .. | .slice _ _ _ _ none| .fieldAddr .. | .field .. | .indexAddr .. | .index .. | .lookup .. | .extract .. =>true
 | .assign _=>!oD o.dst own
 | .buildSlice _ len _=>!(len==0||oD o.dst own)
 | .call ⟨.builtin .len,_,_⟩| .call ⟨.builtin .min,_,_⟩| .call ⟨.builtin .max,_,_⟩=>true
 |_=>false
def iQ (o:Oper):Bool:=match o.op with
 | .move _| .assign _| .pick .. | .build .. | .unOp .. | .makeFunc .. | .field .. | .extract .. | .index .. | .buildSlice .. =>false
 | .call ⟨.builtin .min,_,_⟩| .call ⟨.builtin .max,_,_⟩=>false
 | .binOp _ _ _ y _=>zp y
 |_=>true
def lI (t:Nat):Nat→List Oper→Option Nat
 |_,[]=>none
 |i,o::r=>bif (match o.dst with
  |some d=>Nat.beq d t
  |none=>false) then some i else lI t (i+1) r
def uT (nt:Nat):Nat→List Oper→List Oper→Bool
 |_,[],_=>true
 |i,o::r,all=>(match o.dst with
  |some d=>Nat.blt d nt&&(match lI d 0 all with
   |some j=>Nat.beq i j
   |none=>false)
  |none=>true)&&(b8 o).all (fun j=>Nat.blt j i)&&uT nt (i+1) r all
def pV (tb:List (List Nat)) (all:List Oper):Nat→List Oper→Bool
 |_,[]=>true
 |i,o::r=>(tmpsOf all o).all (fun t=>match lI t 0 all with
  |none=>true
  |some j=>eQ j (cT tb i)||(!iQ o&&(Nat.beq i j||eQ i (cT tb j))))&&pV tb all (i+1) r
def ea (nt:Nat) (ops:List Oper):Bool:=uT nt 0 ops ops&&pV (iT ops) ops 0 ops
section
variable (P:Program) (G:Gl) (T:aT) (own:List Nat) (nt:Nat)
def qg (all:List Oper) (o:Oper) (env:Env) (H:List ax):Option SV:=
 match o.guard with
 |none=>qv G T own env H o.dst o.type o.op
 |some (j,want)=>ob ((all[j]?).bind (·.dst)) fun dj=>ob (look env dj) fun v=>ob (uD v) fun b=>bb (b==some want) (qv G T own env H o.dst o.type o.op) (some .undef)
def kz (all:List Oper) (o:Oper) (env:Env) (H:List ax) (k:SV→List ax→Prop):Prop:=
 match o.guard with
 |none=>cH P G T own env H o.dst o.type o.op k
 |some (j,want)=>aI ((all[j]?).bind (·.dst)) fun dj=>aI (look env dj) fun v=>aI (uD v) fun b=>Br (b==some want) (cH P G T own env H o.dst o.type o.op k) (k .undef H)
def cF (d:Option Nat) (x:SV) (env:Env):Env:=match d with
 |some d=>(d,x)::env
 |none=>env
def again (all:List Oper) (j:Nat) (env:Env) (H:List ax):List Nat→Prop
 |[]=>True
 |i::r=>(match all[i]? with
  |some o=>(vP own o&&iQ o&&!eQ i (cT (iT all) j))=true→qg G T own all o env H=(o.dst).bind (look env)
  |none=>True)∧again all j env H r
def Dr (all:List Oper):Nat→List Nat→Env→List ax→(Env→List ax→Prop)→Prop
 |0,_,_,_,_=>False
 |n+1,L,env,H,K=>
  (∃ i o v,all[i]? =some o∧i∉L∧vP own o=true∧(∀ j∈b8 o,j∈L)∧qg G T own all o env H=some v∧Dr all n (i::L) (cF o.dst v env) H K)∨
  ((∀ i o,all[i]? =some o→i∉L→(∀ j∈b8 o,j∈L)→vP own o=false)∧
   (((∀ i o,all[i]? =some o→i∈L)∧K env H)∨((∃ i o,all[i]? =some o∧i∉L)∧
    ∀ j o,all[j]? =some o→j∉L→(∀ k∈b8 o,k∈L)→kz P G T own all o env H fun x H'=>again G T own all j (cF o.dst x env) H' L∧Dr all n (j::L) (cF o.dst x env) H' K)))
def Qs (all:List Oper) (n:Nat) (L:List Nat) (env:Env) (H:List ax) (K:Env→List ax→Prop):Prop:=
 (∀ i o,all[i]? =some o→i∉L→(∀ j∈b8 o,j∈L)→vP own o=false)∧
  (((∀ i o,all[i]? =some o→i∈L)∧K env H)∨((∃ i o,all[i]? =some o∧i∉L)∧
   ∀ j o,all[j]? =some o→j∉L→(∀ k∈b8 o,k∈L)→kz P G T own all o env H fun x H'=>again G T own all j (cF o.dst x env) H' L∧Dr P G T own all n (j::L) (cF o.dst x env) H' K))
end
section
variable {P:Program} {G:Gl} {T:aT} {own:List Nat} {nt B:Nat} {ρ:Option Nat} {C c:Cx} {env env2 E:Env} {H H':List ax} {a:Act}
theorem jH {t:Nat}:∀ {l:List Oper} {i m:Nat},lI t i l=some m→∃ k o,m=i+k∧l[k]? =some o∧o.dst=some t
 |[],i,m,h=>by cases h
 |o'::r,i,m,h=>by
  simp only[lI] at h
  cases hd:o'.dst with
  |none=>
   rw[hd] at h
   obtain⟨k,o,h1,h2,h3⟩:=jH (l:=r) (i:=i+1) h
   exact⟨k+1,o,by omega,by simpa using h2,h3⟩
  |some d=>
   rw[hd] at h
   cases hb:Nat.beq d t with
   |true=>simp only[hb,cond_true] at h;cases h;exact⟨0,o',rfl,rfl,by rw[hd,Nat.eq_of_beq_eq_true hb]⟩
   |false=>
    simp only[hb,cond_false] at h
    obtain⟨k,o,h1,h2,h3⟩:=jH (l:=r) (i:=i+1) h
    exact⟨k+1,o,by omega,by simpa using h2,h3⟩
theorem gN {all:List Oper}:∀ {l:List Oper} {i:Nat},uT nt i l all=true→∀ k o,l[k]? =some o→(∀ d,o.dst=some d→d<nt∧lI d 0 all=some (i+k))∧∀ j∈b8 o,j<i+k
 |[],i,_,k,o,ho=>by simp at ho
 |o'::r,i,h,k,o,ho=>by
  simp only[uT,Bool.and_eq_true] at h
  cases k with
  |zero=>
   simp at ho
   subst ho
   refine⟨fun d hd=>?_,fun j hj=>?_⟩
   ·have h1:=h.1.1
    rw[hd] at h1
    simp only[Bool.and_eq_true] at h1
    refine⟨by have:=h1.1;rw[Nat.blt_eq] at this;exact this,?_⟩
    have h2:=h1.2
    split at h2
    ·rename_i j hj
     rw[hj,← Nat.eq_of_beq_eq_true h2];rfl
    ·cases h2
   ·have:=List.all_eq_true.1 h.1.2 j hj
    rw[Nat.blt_eq] at this;exact this
  |succ k=>
   have:=gN h.2 k o (by simpa using ho)
   rw[show i+1+k=i+(k+1) by omega] at this
   exact this
theorem lB {tb:List (List Nat)} {all:List Oper}:∀ {l:List Oper} {i:Nat},pV tb all i l=true→∀ k o,l[k]? =some o→∀ t∈tmpsOf all o,∀ j,lI t 0 all=some j→
 j∈cT tb (i+k)∨(iQ o=false∧(i+k=j∨i+k∈cT tb j))
 |[],i,_,k,o,ho=>by simp at ho
 |o'::r,i,h,k,o,ho=>by
  simp only[pV,Bool.and_eq_true] at h
  cases k with
  |zero=>
   simp at ho
   subst ho
   intro t ht j hj
   have h1:=List.all_eq_true.1 h.1 t ht
   rw[hj] at h1
   simp only[Bool.or_eq_true,Bool.and_eq_true,Bool.not_eq_true',c8] at h1
   rcases h1 with h1|⟨h1,h2⟩
   ·exact .inl h1
   ·refine .inr ⟨h1,?_⟩
    rcases h2 with h2|h2
    ·exact .inl (Nat.eq_of_beq_eq_true h2)
    ·exact .inr h2
  |succ k=>
   have:=lB h.2 k o (by simpa using ho)
   rw[show i+1+k=i+(k+1) by omega] at this
   exact this
def pZ (ops:List Oper) (S:Nat→Prop):Prop:=∀ i o,ops[i]? =some o→S i→∀ j∈b8 o,S j
theorem qt {tb:List (List Nat)} {S:Nat→Prop} (ht:∀ i,S i→∀ j∈cT tb i,S j):∀ {l:List Nat},(∀ i∈l,S i)→∀ j∈uK tb l,S j
 |[],_,j,hj=>by cases hj
 |i::r,hl,j,hj=>by
  rcases xF hj with rfl|hj
  ·exact hl _ (List.mem_cons_self ..)
  ·rcases xH hj with hj|hj
   ·exact ht i (hl i (List.mem_cons_self ..)) j hj
   ·exact qt ht (fun k hk=>hl k (List.mem_cons_of_mem _ hk)) j hj
theorem C9 {tb:List (List Nat)} {x:List Nat} (i:Nat):cT (tb++[x]) i=if i<tb.length then cT tb i else if i=tb.length then x else []:=by
 unfold cT
 rw[List.getElem?_append]
 split
 ·rfl
 ·rename_i h
  split
  ·rename_i h2;rw[h2,Nat.sub_self];rfl
  ·rw[List.getElem?_eq_none (by simp;omega)];rfl
theorem qs {all:List Oper} {S:Nat→Prop} (hS:pZ all S):∀ (rest done:List Oper) (tb:List (List Nat)),all=done++rest→tb.length=done.length→
 (∀ i o,all[i]? =some o→(∀ k∈b8 o,S k)→∀ j∈cT tb i,S j)→∀ i o,all[i]? =some o→(∀ k∈b8 o,S k)→∀ j∈cT (yQ tb rest) i,S j
 |[],done,tb,_,_,h=>h
 |o::r,done,tb,ha,hl,h=>by
  refine qs hS r (done++[o]) (tb++[uK tb (b8 o)]) (by rw[ha];simp) (by simp[hl]) ?_
  intro i oi hi hd j hj
  rw[C9] at hj
  split at hj
  ·exact h i oi hi hd j hj
  ·split at hj
   ·rename_i h2
    have:oi=o:=by
     rw[h2,hl,ha,List.getElem?_append_right (Nat.le_refl _),Nat.sub_self] at hi
     simpa using hi.symm
    subst this
    refine qt (S:=S) (fun k hk q hq=>?_) hd j hj
    have hlt:k<tb.length:=by
     rcases Nat.lt_or_ge k tb.length with h3|h3
     ·exact h3
     ·unfold cT at hq;rw[List.getElem?_eq_none (by omega)] at hq;cases hq
    have hk2:k<all.length:=by rw[ha];simp;omega
    exact h k _ (List.getElem?_eq_getElem hk2) (hS k _ (List.getElem?_eq_getElem hk2) hk) q hq
   ·cases hj
theorem jP {all:List Oper} {S:Nat→Prop} (hS:pZ all S) {i:Nat} {o:Oper} (ho:all[i]? =some o) (hd:∀ k∈b8 o,S k):∀ j∈cT (iT all) i,S j:=
 qs hS all [] [] rfl rfl (fun i o _ _ j hj=>by simp[cT] at hj) i o ho hd
def vR (all:List Oper) (o:Oper) (env env2:Env):Prop:=∀ t∈tmpsOf all o,look env t=look env2 t
theorem vR.ev {all:List Oper} {o:Oper} (h:vR all o env env2):∀ x∈fJ o.op,ev G env x=ev G env2 x:=fun x hx=>by
 cases x with
 |tmp t=>exact h t (by unfold tmpsOf;rw[List.mem_append,List.mem_filterMap];exact .inl ⟨_,hx,rfl⟩)
 |_=>rfl
theorem jB {all:List Oper} {o:Oper} (h:vR all o env env2):qg G T own all o env H=qg G T own all o env2 H:=by
 unfold qg
 rw[BQ (T:=T) (own:=own) (dst:=o.dst) (ty:=o.type) (H:=H) (h.ev (G:=G))]
 cases hg:o.guard with
 |none=>rfl
 |some p=>
  obtain⟨j,w⟩:=p
  simp only
  cases hd:(all[j]?).bind (·.dst) with
  |none=>rfl
  |some dj=>
   have:look env dj=look env2 dj:=h dj (by unfold tmpsOf;rw[List.mem_append,hg];right;simp only[hd];simp)
   simp only[lU,this]
theorem ox {all:List Oper} {o:Oper} (h:vR all o env env2) {k:SV→List ax→Prop} (hk:kz P G T own all o env H k):kz P G T own all o env2 H k:=by
 unfold kz at hk ⊢
 rw[← pc (P:=P) (T:=T) (own:=own) (dst:=o.dst) (ty:=o.type) (H:=H) (k:=k) (h.ev (G:=G))]
 cases hg:o.guard with
 |none=>rw[hg] at hk;exact hk
 |some p=>
  obtain⟨j,w⟩:=p
  rw[hg] at hk
  obtain⟨dj,h1,h2⟩:=hk
  have:look env dj=look env2 dj:=h dj (by unfold tmpsOf;rw[List.mem_append,hg];right;simp only[h1];simp)
  rw[this] at h2
  exact⟨dj,h1,h2⟩
theorem H4 {all:List Oper} {o:Oper} {v:SV} {k:SV→List ax→Prop} (h:qg G T own all o env H=some v) (hk:k v H):kz P G T own all o env H k:=by
 unfold qg at h
 unfold kz
 cases hg:o.guard with
 |none=>rw[hg] at h;exact tT h hk
 |some p=>
  obtain⟨j,w⟩:=p
  rw[hg] at h
  obtain⟨dj,h1,h2⟩:=aJ h
  obtain⟨u,h3,h4⟩:=aJ h2
  obtain⟨b,h5,h6⟩:=aJ h4
  refine⟨dj,h1,u,h3,b,h5,And.intro (fun e=>?_) (fun e=>?_)⟩
  ·rw[e] at h6;exact tT h6 hk
  ·rw[e] at h6;cases h6;exact hk
theorem jc {all:List Oper} {o:Oper} {k k':SV→List ax→Prop} (hk:∀ x H',k x H'→k' x H') (h:kz P G T own all o env H k):kz P G T own all o env H k':=by
 unfold kz at h ⊢
 cases hg:o.guard with
 |none=>rw[hg] at h;exact tw hk h
 |some p=>
  obtain⟨j,w⟩:=p
  rw[hg] at h
  obtain⟨dj,h1,u,h3,b,h5,h6,h7⟩:=h
  exact⟨dj,h1,u,h3,b,h5,And.intro (fun e=>tw hk (h6 e)) (fun e=>hk _ _ (h7 e))⟩
theorem BR {o:Oper} (hr:iQ o=false):qv G T own env H o.dst o.type o.op=qv G T own env H' o.dst o.type o.op:=by
 unfold iQ at hr
 split at hr<;>first
  |(cases hr;done)
  |(rename_i he;rw[he];rfl)
  |(rename_i he;rw[he];simp only[qv,xL,hr];done)
  |(rename_i al tl he;rw[he];obtain⟨al⟩:=al;rcases al with _|⟨x,_|⟨y,_|⟨z,r⟩⟩⟩<;>rfl)
theorem BN {all:List Oper} {o:Oper} (hr:iQ o=false):qg G T own all o env H=qg G T own all o env H':=by
 unfold qg
 rw[BR (H:=H) (H':=H') hr]
theorem D6 (hT:aq P T) (hi:Inv G nt B c env a) {ops:Array Oper} {i:Nat} {o:Oper} {k:SV→List ax→Prop} {K:Act→World→Prop} {Q:Exit→Act→World→Prop} (ho:ops[i]? =some o) (hd:∀ d,o.dst=some d→d<nt)
 (h:kz P G T own ops.toList o env c.H k) (hk:∀ x c' a',k x c'.H→Inv G nt B c' (cF o.dst x env) a'→Grow c c'→K a' c'.w):wpOpIn (FR ρ) 0 P ops Q i K a c.w:=by
 unfold wpOpIn
 rw[ho]
 simp only
 have run:cH P G T own env c.H o.dst o.type o.op k→o.wpIn (FR ρ) 0 P a c.w K Q:=fun hx=>by
  refine u7 hT hi hx fun x c' u e1 e2 e3 e4=>?_
  cases hdd:o.dst with
  |none=>exact hk x c' _ e1 (by rw[hdd];exact hi.jA e4 e2) e4
  |some d=>exact hk x c' _ e1 (by rw[hdd];exact hi.put e4 e2 e3 (hd d hdd)) e4
 unfold kz at h
 cases hg:o.guard with
 |none=>
  rw[hg] at h
  simp only[Region.wanted,hg,if_true]
  exact run h
 |some p=>
  obtain⟨j,want⟩:=p
  rw[hg] at h
  obtain⟨d,h1,v,h2,g,h3,h4⟩:=h
  have hy:=kg hi h1 h2 h3
  simp only[Region.wanted,hg,hy]
  cases hgw:(g==some want) with
  |true=>
   rw[if_pos rfl]
   exact run (h4.1 hgw)
  |false=>
   rw[if_neg (by simp)]
   refine⟨fun _ _=>trivial,?_⟩
   have e1:=h4.2 hgw
   cases hdd:o.dst with
   |none=>exact hk .undef c _ e1 (by rw[hdd];exact hi.jA (Grow.refl c) hi.heap) (Grow.refl c)
   |some d=>exact hk .undef c _ e1 (by rw[hdd];exact hi.put (Grow.refl c) hi.heap aG.undef (hd d hdd)) (Grow.refl c)
def lk (all:List Oper) (S:Nat→Prop) [DecidablePred S] (V:Nat→SV) (pre:Env) (t:Nat):Option SV:=
 match lI t 0 all with
 |some j=>if S j then some (V j) else look pre t
 |none=>look pre t
structure kE (G:Gl) (T:aT) (own:List Nat) (all:List Oper) (pre:Env) (R:Nat→Prop) [DecidablePred R] (L:List Nat) (V:Nat→SV) (env:Env) (H:List ax):Prop where
 env:∀ t,look env t=lk all (· ∈L) V pre t
 sub:∀ j,R j→j∈L
 CE:∀ j∈L,j<all.length
 quiet:∀ j o,all[j]? =some o→j∈L→¬ R j→vP own o=true
 closed:pZ all (· ∈L)
 lM:pZ all R
 val:∀ i o,all[i]? =some o→i∈L→¬ R i→∀ E,(∀ t∈tmpsOf all o,look E t=lk all (· ∈cT (iT all) i) V pre t)→qg G T own all o E H=some (V i)
section
variable {all:List Oper} {pre:Env} {R:Nat→Prop} [DecidablePred R] {L:List Nat} {V:Nat→SV}
theorem vn (hok:ea nt all=true) {S:Nat→Prop} [DecidablePred S] (hS:pZ all S) {i:Nat} {o:Oper} (ho:all[i]? =some o) (hn:¬ S i) (hd:∀ j∈b8 o,S j):
 ∀ t∈tmpsOf all o,lk all S V pre t=lk all (· ∈cT (iT all) i) V pre t:=by
 intro t ht
 unfold ea at hok
 simp only[Bool.and_eq_true] at hok
 have hsub:=jP hS ho hd
 unfold lk
 cases hw:lI t 0 all with
 |none=>rfl
 |some j=>
  simp only
  have h1:=lB hok.2 i o ho t ht j hw
  rw[Nat.zero_add] at h1
  by_cases hj:j∈cT (iT all) i
  ·rw[if_pos hj,if_pos (hsub j hj)]
  ·rw[if_neg hj,if_neg]
   intro hSj
   rcases h1 with h1|⟨_,h1|h1⟩
   ·exact hj h1
   ·exact hn (h1 ▸ hSj)
   ·obtain⟨k,oj,e1,e2,e3⟩:=jH hw
    rw[Nat.zero_add] at e1
    subst e1
    exact hn (jP hS e2 (hS _ _ e2 hSj) i h1)
theorem vm (hok:ea nt all=true) {S:Nat→Prop} [DecidablePred S] {S':Nat→Prop} [DecidablePred S'] {i:Nat} {o:Oper} (ho:all[i]? =some o) (hS:∀ j,S' j↔(j=i∨S j)) {v:SV} {V':Nat→SV} (hV:∀ j,S j→j≠i→V' j=V j) (hVi:V' i=v)
 {env:Env} (he:∀ t,look env t=lk all S V pre t):∀ t,look (cF o.dst v env) t=lk all S' V' pre t:=by
 intro t
 unfold ea at hok
 simp only[Bool.and_eq_true] at hok
 have hdd:=(gN hok.1 i o ho).1
 rw[Nat.zero_add] at hdd
 have other:(∀ d,o.dst=some d→t≠d)→look env t=lk all S' V' pre t:=fun hne=>by
  rw[he t]
  unfold lk
  cases hw:lI t 0 all with
  |none=>rfl
  |some j=>
   simp only
   have hji:j≠i:=fun e=>by
    obtain⟨k,oj,e1,e2,e3⟩:=jH hw
    rw[Nat.zero_add] at e1
    rw[← e1,e,ho] at e2
    cases e2
    exact hne t e3 rfl
   by_cases hj:S j
   ·rw[if_pos hj,if_pos ((hS j).2 (.inr hj)),hV j hj hji]
   ·rw[if_neg hj,if_neg (fun h=>by rcases (hS j).1 h with h|h;exact hji h;exact hj h)]
 cases hd:o.dst with
 |none=>exact other (fun d h=>by rw[hd] at h;cases h)
 |some d=>
  simp only[cF,look]
  by_cases htd:t=d
  ·subst htd
   rw[if_pos rfl]
   unfold lk
   rw[(hdd t hd).2]
   simp only
   rw[if_pos ((hS i).2 (.inl rfl)),hVi]
  ·rw[if_neg htd]
   exact other (fun d' h=>by rw[hd] at h;cases h;exact htd)
theorem kE.BP (hok:ea nt all=true) (D:kE G T own all pre R L V env H) {i:Nat} {o:Oper} {v:SV} (ho:all[i]? =some o) (hn:i∉L) (hq:vP own o=true) (hd:∀ j∈b8 o,j∈L) (hv:qg G T own all o env H=some v):
 ∃ V',(∀ j∈L,V' j=V j)∧kE G T own all pre R (i::L) V' (cF o.dst v env) H:=by
 have hcl:∀ k ok,all[k]? =some ok→k∈L→i∉cT (iT all) k:=fun k ok hk hkL hi=>hn (jP D.closed hk (D.closed k ok hk hkL) i hi)
 have hcl2:i∉cT (iT all) i:=fun hi=>hn (jP D.closed ho hd i hi)
 have lkV:∀ (S:List Nat) t,i∉S→lk all (· ∈S) (fun j=>if j=i then v else V j) pre t=lk all (· ∈S) V pre t:=fun S t hS=>by
  unfold lk
  cases lI t 0 all with
  |none=>rfl
  |some j=>
   simp only
   by_cases hj:j∈S
   ·rw[if_pos hj,if_pos hj,if_neg (fun(e:j=i)=>hS (e ▸ hj))]
   ·rw[if_neg hj,if_neg hj]
 refine⟨fun j=>if j=i then v else V j,fun j hj=>if_neg fun(e:j=i)=>hn (e ▸ hj),⟨?_,fun j hj=>List.mem_cons_of_mem _ (D.sub j hj),?_,?_,?_,D.lM,?_⟩⟩
 ·exact vm hok ho (S:=(· ∈L)) (by simp) (fun j _ hj=>if_neg hj) (if_pos rfl) D.env
 ·intro j hj
  rcases List.mem_cons.1 hj with rfl|hj
  ·exact(List.getElem?_eq_some_iff.1 ho).1
  ·exact D.CE j hj
 ·intro j oj hoj hj hR
  rcases List.mem_cons.1 hj with rfl|hj
  ·rw[ho] at hoj;cases hoj;exact hq
  ·exact D.quiet j oj hoj hj hR
 ·intro j oj hoj hj k hk
  rcases List.mem_cons.1 hj with rfl|hj
  ·rw[ho] at hoj;cases hoj;exact List.mem_cons_of_mem _ (hd k hk)
  ·exact List.mem_cons_of_mem _ (D.closed j oj hoj hj k hk)
 ·intro j oj hoj hj hR E hE
  rcases List.mem_cons.1 hj with rfl|hj
  ·rw[ho] at hoj;cases hoj
   rw[if_pos rfl,← hv]
   refine jB fun t ht=>?_
   rw[hE t ht,lkV _ t hcl2,D.env t]
   exact(vn hok D.closed ho hn hd t ht).symm
  ·have hji:j≠i:=fun e=>hn (e ▸ hj)
   simp only[if_neg hji]
   refine D.val j oj hoj hj hR E fun t ht=>?_
   rw[hE t ht,lkV _ t (hcl j oj hoj hj)]
theorem kE.rest (hok:ea nt all=true) {K:Env→List ax→Prop}:∀ (n:Nat) {L:List Nat} {V:Nat→SV} {env:Env},kE G T own all pre R L V env H→Dr P G T own all n L env H K→
 ∃ n' L' V' env',kE G T own all pre R L' V' env' H∧Qs P G T own all n' L' env' H K∧∀ j∈L,j∈L'∧V' j=V j
 |0,L,V,env,D,h=>h.elim
 |n+1,L,V,env,D,h=>by
  rcases h with⟨i,o,v,h1,e3,e4,e5,h2,h3⟩|h
  ·obtain⟨V',hV',D'⟩:=D.BP hok h1 e3 e4 e5 h2
   obtain⟨n',L',V2,env2,g1,g2,g4⟩:=kE.rest hok n D' h3
   exact⟨n',L',V2,env2,g1,g2,fun j hj=>⟨(g4 j (List.mem_cons_of_mem _ hj)).1,(g4 j (List.mem_cons_of_mem _ hj)).2.trans (hV' j hj)⟩⟩
  ·exact⟨n,L,V,env,D,h,fun _ h=>⟨h,rfl⟩⟩
theorem s7 {j:Nat} {env:Env} {H:List ax}:∀ {L:List Nat},again G T own all j env H L→∀ i o,i∈L→all[i]? =some o→vP own o=true→iQ o=true→i∉cT (iT all) j→qg G T own all o env H=(o.dst).bind (look env)
 |[],_,i,o,hi,_,_,_,_=>by cases hi
 |k::r,h,i,o,hi,ho,h1,h2,h3=>by
  obtain⟨h4,h5⟩:=h
  rcases List.mem_cons.1 hi with rfl|hi
  ·rw[ho] at h4
   refine h4 ?_
   have:eQ i (cT (iT all) j)=false:=by
    cases hh:eQ i (cT (iT all) j) with
    |false=>rfl
    |true=>exact absurd (c8.1 hh) h3
   rw[h1,h2,this];rfl
  ·exact s7 h5 i o hi ho h1 h2 h3
theorem DH (hok:ea nt all=true) {S:Nat→Prop} [DecidablePred S] {i:Nat} {o:Oper} (ho:all[i]? =some o) (hr:iQ o=true) (hsub:∀ j∈cT (iT all) i,S j):∀ t∈tmpsOf all o,lk all S V pre t=lk all (· ∈cT (iT all) i) V pre t:=by
 intro t ht
 unfold ea at hok
 simp only[Bool.and_eq_true] at hok
 unfold lk
 cases hw:lI t 0 all with
 |none=>rfl
 |some j=>
  simp only
  have h1:=lB hok.2 i o ho t ht j hw
  rw[Nat.zero_add] at h1
  rcases h1 with h1|⟨h1,_⟩
  ·rw[if_pos h1,if_pos (hsub j h1)]
  ·rw[hr] at h1;cases h1
theorem kE.DK (hok:ea nt all=true) (D:kE G T own all pre R L V env H) {R':Nat→Prop} [DecidablePred R'] {i:Nat} {o:Oper} {x:SV} (ho:all[i]? =some o) (hn:i∉L) (hd:∀ j∈b8 o,R j) (hR':∀ j,R' j↔(j=i∨R j))
 (hag:again G T own all i (cF o.dst x env) H' L):∃ V',(∀ j,j≠i→V' j=V j)∧V' i=x∧kE G T own all pre R' (i::L) V' (cF o.dst x env) H':=by
 have hdL:∀ j∈b8 o,j∈L:=fun j hj=>D.sub j (hd j hj)
 have hcl:∀ k ok,all[k]? =some ok→k∈L→i∉cT (iT all) k:=fun k ok hk hkL hi=>hn (jP D.closed hk (D.closed k ok hk hkL) i hi)
 have lkV:∀ (S:List Nat) t,i∉S→lk all (· ∈S) (fun j=>if j=i then x else V j) pre t=lk all (· ∈S) V pre t:=fun S t hS=>by
  unfold lk
  cases lI t 0 all with
  |none=>rfl
  |some j=>
   simp only
   by_cases hj:j∈S
   ·rw[if_pos hj,if_pos hj,if_neg (fun(e:j=i)=>hS (e ▸ hj))]
   ·rw[if_neg hj,if_neg hj]
 have henv:∀ t,look (cF o.dst x env) t=lk all (· ∈i::L) (fun j=>if j=i then x else V j) pre t:=vm hok ho (S:=(· ∈L)) (by simp) (fun j _ hj=>if_neg hj) (if_pos rfl) D.env
 refine⟨fun j=>if j=i then x else V j,fun j hj=>if_neg hj,if_pos rfl,⟨henv,?_,?_,?_,?_,?_,?_⟩⟩
 ·intro j hj
  rcases (hR' j).1 hj with rfl|hj
  ·exact List.mem_cons_self ..
  ·exact List.mem_cons_of_mem _ (D.sub j hj)
 ·intro j hj
  rcases List.mem_cons.1 hj with rfl|hj
  ·exact(List.getElem?_eq_some_iff.1 ho).1
  ·exact D.CE j hj
 ·intro j oj hoj hj hR
  rcases List.mem_cons.1 hj with rfl|hj
  ·exact(hR ((hR' j).2 (.inl rfl))).elim
  ·exact D.quiet j oj hoj hj (fun h=>hR ((hR' j).2 (.inr h)))
 ·intro j oj hoj hj k hk
  rcases List.mem_cons.1 hj with rfl|hj
  ·rw[ho] at hoj;cases hoj;exact List.mem_cons_of_mem _ (hdL k hk)
  ·exact List.mem_cons_of_mem _ (D.closed j oj hoj hj k hk)
 ·intro j oj hoj hj k hk
  rcases (hR' j).1 hj with rfl|hj
  ·rw[ho] at hoj;cases hoj;exact(hR' k).2 (.inr (hd k hk))
  ·exact(hR' k).2 (.inr (D.lM j oj hoj hj k hk))
 ·intro j oj hoj hj hR E hE
  have hji:j≠i:=fun e=>hR ((hR' j).2 (.inl e))
  have hjL:j∈L:=(List.mem_cons.1 hj).resolve_left hji
  have hjR:¬ R j:=fun h=>hR ((hR' j).2 (.inr h))
  simp only[if_neg hji]
  have hE':∀ t∈tmpsOf all oj,look E t=lk all (· ∈cT (iT all) j) V pre t:=fun t ht=>by rw[hE t ht,lkV _ t (hcl j oj hoj hjL)]
  cases hr:iQ oj with
  |false=>rw[BN (H':=H) hr];exact D.val j oj hoj hjL hjR E hE'
  |true=>
   have hq:=D.quiet j oj hoj hjL hjR
   have hnc:j∉cT (iT all) i:=fun h=>hjR (jP D.lM ho hd j h)
   have h1:=s7 hag j oj hjL hoj hq hr hnc
   have hsub:∀ k∈cT (iT all) j,k∈i::L:=fun k hk=>List.mem_cons_of_mem _ (jP D.closed hoj (D.closed j oj hoj hjL) k hk)
   have h2:qg G T own all oj E H'=qg G T own all oj (cF o.dst x env) H':=jB fun t ht=>by
    rw[hE t ht,henv t]
    exact(DH (S:=(· ∈i::L)) hok hoj hr hsub t ht).symm
   rw[h2,h1]
   have hds:oj.dst.isSome=true:=by
    unfold vP at hq
    simp only[Bool.and_eq_true] at hq
    exact hq.1
   obtain⟨d,hd'⟩:=Option.isSome_iff_exists.1 hds
   rw[hd',Option.bind_some,henv d]
   have hok':=hok
   unfold ea at hok'
   simp only[Bool.and_eq_true] at hok'
   have:=((gN hok'.1 j oj hoj).1 d hd').2
   rw[Nat.zero_add] at this
   unfold lk
   rw[this]
   simp only
   rw[if_pos hj,if_neg hji]
theorem kE.listed (D:kE G T own all pre R L V env H) {R':Nat→Prop} [DecidablePred R'] {i:Nat} {o:Oper} (ho:all[i]? =some o) (hi:i∈L) (hd:∀ j∈b8 o,R j) (hR':∀ j,R' j↔(j=i∨R j)):kE G T own all pre R' L V env H:=by
 refine⟨D.env,?_,D.CE,?_,D.closed,?_,?_⟩
 ·intro j hj
  rcases (hR' j).1 hj with rfl|hj
  ·exact hi
  ·exact D.sub j hj
 ·exact fun j oj hoj hj hR=>D.quiet j oj hoj hj (fun h=>hR ((hR' j).2 (.inr h)))
 ·intro j oj hoj hj k hk
  rcases (hR' j).1 hj with rfl|hj
  ·rw[ho] at hoj;cases hoj;exact(hR' k).2 (.inr (hd k hk))
  ·exact(hR' k).2 (.inr (D.lM j oj hoj hj k hk))
 ·exact fun j oj hoj hj hR=>D.val j oj hoj hj (fun h=>hR ((hR' j).2 (.inr h)))
end
def sW (listed:Array Bool) (j:Nat):Prop:=listed.getD j false=true
instance (listed:Array Bool):DecidablePred (sW listed):=fun j=>inferInstanceAs (Decidable (_=true))
theorem FY {listed:Array Bool} {i:Nat} (hi:i<listed.size) (j:Nat):sW (listed.setIfInBounds i true) j↔(j=i∨sW listed j):=by
 unfold sW
 by_cases h:j=i
 ·subst h;simp[hi]
 ·rw[getD_set_ne false (fun e=>h e.symm)];simp[h]
theorem BS {ops:Array Oper} (hok:ea nt ops.toList=true) {listed:Array Bool} (hsz:listed.size=ops.size) (h:Region.ready .any ops listed=[]):∀ i,i<ops.size→sW listed i:=by
 intro i
 induction i using Nat.strongRecOn with
 |_ i ih=>
  intro hi
  by_cases hl:sW listed i
  ·exact hl
  ·exfalso
   have hok':=hok
   unfold ea at hok'
   simp only[Bool.and_eq_true] at hok'
   have hmem:i∈Region.ready .any ops listed:=by
    rw[mem_ready]
    refine⟨?_,ops[i],by simp[hi],fun e he hb=>?_⟩
    ·unfold sW at hl
     have hi':i<listed.size:=by omega
     simp only[Array.getD_eq_getD_getElem?,Array.getElem?_eq_getElem hi',Option.getD_some] at hl ⊢
     simpa using hl
    ·have hlt:=(gN hok'.1 i ops[i] (by simp[hi])).2 e.on (by unfold b8;rw[List.mem_map];exact⟨e,List.mem_filter.2 ⟨by simpa using he,hb⟩,rfl⟩)
     rw[Nat.zero_add] at hlt
     exact ih e.on hlt (by omega)
   rw[h] at hmem
   cases hmem
theorem CW (hT:aq P T) {ops:Array Oper} (hok:ea nt ops.toList=true) {pre:Env} {K:Env→List ax→Prop} {Q:Exit→Act→World→Prop}
 (hQ:∀ env c a,K env c.H→Inv G nt C.w.heap.size c env a→Grow C c→Q .normal a c.w):∀ (fuel:Nat) (listed:Array Bool),listed.size=ops.size→listed.toList.count false≤fuel→
 ∀ {L:List Nat} {V:Nat→SV} {env iJ:Env} {c:Cx} {a:Act} {n:Nat},kE G T own ops.toList pre (sW listed) L V env c.H→Qs P G T own ops.toList n L env c.H K→
 (∀ t,look iJ t=lk ops.toList (sW listed) V pre t)→Inv G nt C.w.heap.size c iJ a→Grow C c→wpAnyIn (FR ρ) 0 P .any ops Q fuel listed a c.w:=by
 intro fuel
 have fin:∀ (listed:Array Bool),listed.size=ops.size→∀ {L:List Nat} {V:Nat→SV} {env iJ:Env} {c:Cx} {a:Act} {n:Nat},kE G T own ops.toList pre (sW listed) L V env c.H→Qs P G T own ops.toList n L env c.H K→
  (∀ t,look iJ t=lk ops.toList (sW listed) V pre t)→Inv G nt C.w.heap.size c iJ a→Grow C c→Region.ready .any ops listed=[]→Q .normal a c.w:=by
  intro listed hsz L V env iJ c a n D hDr hR hi hg hr
  have hall:=BS hok hsz hr
  obtain⟨_,hDr⟩:=hDr
  have hDr:K env c.H:=by
   rcases hDr with⟨_,h⟩|⟨⟨i,o,h1,h2⟩,_⟩
   ·exact h
   ·exact(h2 (D.sub i (hall i (by have:=(List.getElem?_eq_some_iff.1 h1).1;simpa using this)))).elim
  ·refine hQ env c a hDr ⟨hi.heap,hi.gn,hi.size,fun t x hx=>hi.env t x ?_,hi.gm⟩ hg
   rw[← hx,D.env t,hR t]
   unfold lk
   cases hw:lI t 0 ops.toList with
   |none=>rfl
   |some j=>
    obtain⟨k,o,e1,e2,e3⟩:=jH hw
    have hlt:=(List.getElem?_eq_some_iff.1 e2).1
    rw[Nat.zero_add] at e1
    have hj:sW listed j:=hall j (by rw[e1];simpa using hlt)
    simp only
    rw[if_pos hj,if_pos (D.sub j hj)]
 induction fuel with
 |zero=>
  intro listed hsz hc L V env iJ c a n D hDr hR hi hg
  have hr:Region.ready .any ops listed=[]:=by
   cases hh:Region.ready .any ops listed with
   |nil=>rfl
   |cons m r=>
    have hm:m∈Region.ready .any ops listed:=by rw[hh];exact List.mem_cons_self ..
    rw[mem_ready] at hm
    have h0:listed.toList.count false=0:=by omega
    rw[List.count_eq_zero] at h0
    obtain⟨h1,o,h2,_⟩:=hm
    have hlt:=(Array.getElem?_eq_some_iff.1 h2).1
    have hlt':m<listed.size:=by omega
    rw[Array.getD_eq_getD_getElem?,Array.getElem?_eq_getElem hlt',Option.getD_some] at h1
    exact(h0 (by rw[← h1];simp)).elim
  exact⟨hr,fin listed hsz D hDr hR hi hg hr⟩
 |succ fuel ih=>
  intro listed hsz hc L V env iJ c a n D hDr hR hi hg
  refine⟨fun hr=>fin listed hsz D hDr hR hi hg hr,fun i hir=>?_⟩
  rw[mem_ready] at hir
  obtain⟨h1,o,h2,h3⟩:=hir
  have hlt:=(Array.getElem?_eq_some_iff.1 h2).1
  have hlt':i<listed.size:=by omega
  have hol:ops.toList[i]? =some o:=by simpa using h2
  have hn:¬ sW listed i:=by
   unfold sW
   rw[Array.getD_eq_getD_getElem?,Array.getElem?_eq_getElem hlt',Option.getD_some] at h1 ⊢
   rw[h1];simp
  have hdeps:∀ j∈b8 o,sW listed j:=fun j hj=>by
   unfold b8 at hj
   obtain⟨e,he,rfl⟩:=List.mem_map.1 hj
   obtain⟨he1,he2⟩:=List.mem_filter.1 he
   exact h3 e (by simpa using he1) he2
  have hset:=FY (listed:=listed) hlt'
  have hcnt:(listed.setIfInBounds i true).toList.count false≤fuel:=by
   have hg:listed.toList[i]'(by simpa using hlt')=false:=by
    rw[Array.getD_eq_getD_getElem?,Array.getElem?_eq_getElem hlt',Option.getD_some] at h1
    simpa using h1
   rw[Array.toList_setIfInBounds,List.count_set (by simpa using hlt'),hg]
   have:0<listed.toList.count false:=List.count_pos_iff.2 (by rw[← hg];simp)
   show listed.toList.count false - 1+0≤fuel
   omega
  have hok':=hok
  unfold ea at hok'
  simp only[Bool.and_eq_true] at hok'
  have hdst:∀ d,o.dst=some d→d<nt:=fun d hd=>((gN hok'.1 i o hol).1 d hd).1
  by_cases hiL:i∈L
  ·have hval:=D.val i o hol hiL hn iJ fun t ht=>by
    rw[hR t]
    exact vn hok D.lM hol hn hdeps t ht
   refine D6 hT hi h2 hdst (k:=fun x H'=>x=V i∧H'=c.H) (H4 hval ⟨rfl,rfl⟩) ?_
   rintro x c' a' ⟨rfl,hH⟩ hi' hg'
   refine ih (listed.setIfInBounds i true) (by simp[hsz]) hcnt (L:=L) (V:=V) (env:=env) (n:=n) ?_ (by rw[hH];exact hDr) ?_ hi' (hg.trans hg')
   ·rw[hH];exact D.listed hol hiL hdeps hset
   ·exact vm hok hol hset (fun _ _ _=>rfl) rfl hR
  ·have hex:kz P G T own ops.toList o env c.H fun x H'=>again G T own ops.toList i (cF o.dst x env) H' L∧Dr P G T own ops.toList n (i::L) (cF o.dst x env) H' K:=by
    rcases hDr.2 with⟨h,_⟩|⟨_,h⟩
    ·exact(hiL (h i o hol)).elim
    ·exact h i o hol hiL (fun j hj=>D.sub j (hdeps j hj))
   ·skip
    have hag:vR ops.toList o env iJ:=fun t ht=>by
     rw[D.env t,hR t,vn hok D.closed hol hiL (fun j hj=>D.sub j (hdeps j hj)) t ht]
     exact(vn hok D.lM hol hn hdeps t ht).symm
    refine D6 hT hi h2 hdst (ox hag hex) ?_
    rintro x c' a' ⟨hagain,hDr'⟩ hi' hg'
    obtain⟨V',e1,e2,D'⟩:=D.DK hok hol hiL hdeps hset hagain
    obtain⟨n',L',V2,env2,g1,g2,g4⟩:=kE.rest hok n D' hDr'
    refine ih (listed.setIfInBounds i true) (by simp[hsz]) hcnt g1 g2 (fun t=>?_) hi' (hg.trans hg')
    have hb:∀ j,sW (listed.setIfInBounds i true) j→j∈i::L:=fun j hj=>D'.sub j hj
    refine vm hok hol hset (S:=sW listed) (fun j hj hji=>?_) ?_ hR t
    ·rw[(g4 j (hb j ((hset j).2 (.inr hj)))).2,e1 j hji]
    ·rw[(g4 i (List.mem_cons_self ..)).2,e2]
theorem dV.draw (hT:aq P T) (hm:P.follows .mixedOrders=true) {id:Nat} {ops:Array Oper} {Q:Exit→St→Prop} {s:St} (hok:ea nt ops.toList=true) {n:Nat} (h:Dr P G T own ops.toList n [] s.env s.H fun env H=>Q .normal ⟨env,H⟩):dV P G nt ρ C (.region id ops true) Q s:=by
 intro c a hc hi hg
 refine wpIn_region_any hm ?_
 obtain⟨e1,e2⟩:=Cx.world hi.heap (w':={ c.w with drawn:=c.w.drawn+1}) (fun _ _=>rfl) (Nat.le_refl _) rfl rfl rfl
 have hi':Inv G nt C.w.heap.size { c with w:={ c.w with drawn:=c.w.drawn+1}} s.env a:=⟨e2,hi.gn.grow e1,hi.size,fun t x hx=>(hi.env t x hx).grow e1,hi.gm.grow e1⟩
 have hDr:Dr P G T own ops.toList n [] s.env c.H fun env H=>Q .normal ⟨env,H⟩:=by rw[hc];exact h
 have hno:∀ j,¬ sW (Array.replicate ops.size false) j:=fun j=>by
  unfold sW
  rw[Array.getD_eq_getD_getElem?]
  by_cases hj:j<ops.size
  ·simp[hj]
  ·simp[hj]
 have hlk0:∀ t,look s.env t=lk ops.toList (sW (Array.replicate ops.size false)) (fun _=> .undef) s.env t:=fun t=>by
  unfold lk
  cases lI t 0 ops.toList with
  |none=>rfl
  |some j=>simp only;rw[if_neg (hno j)]
 have D0:kE G T own ops.toList s.env (sW (Array.replicate ops.size false)) [] (fun _=> .undef) s.env c.H:=by
  refine⟨fun t=>?_,fun j hj=>(hno j hj).elim,fun j hj=>(List.not_mem_nil hj).elim,fun j o _ hj=>(List.not_mem_nil hj).elim,fun j o _ hj=>(List.not_mem_nil hj).elim,fun j o _ hj=>(hno j hj).elim,fun j o _ hj=>(List.not_mem_nil hj).elim⟩
  unfold lk
  cases lI t 0 ops.toList with
  |none=>rfl
  |some j=>simp only;rw[if_neg List.not_mem_nil]
 obtain⟨n',L',V',env',g1,g2,g4⟩:=kE.rest hok n D0 hDr
 refine CW (c:={ c with w:={ c.w with drawn:=c.w.drawn+1}}) (pre:=s.env) (Q:=fun e a' w'=>∃ s' c',Q e s'∧c'.H=s'.H∧c'.w=w'∧Inv G nt C.w.heap.size c' s'.env a'∧Grow C c') hT hok (fun env c a hk hi hg=>⟨⟨env,c.H⟩,c,hk,rfl,rfl,hi,hg⟩) ops.size (Array.replicate ops.size false) (by simp) ?_ g1 g2 (fun t=>?_) hi' (hg.trans e1)
 ·exact Nat.le_trans (List.count_le_length ..) (by simp)
 ·rw[hlk0 t]
  unfold lk
  cases lI t 0 ops.toList with
  |none=>rfl
  |some j=>simp only;rw[if_neg (hno j),if_neg (hno j)]
end
end
end Go.Proofs.YtehfihnfeakmaaaGreatDoor
