/- A part of the proof: SvI, SvJ, SvK, SvL, SvM, SvN. Names and spaces are cut short by program. -/
import Derived.Test.YtedejleokilohaaGreatDoorMa
import Derived.Laws.Strings
import Derived.Laws.Concat
import Derived.Laws.StructEq
import Derived.Lib.ConvBytes
import Derived.Laws.BytesArg
import Derived.Laws.AppendOwn
import Derived.MapKept
import Derived.Great.BuildSlice
set_option linter.unusedSimpArgs false
set_option linter.unusedVariables false
set_option maxRecDepth 10000
set_option maxHeartbeats 4000000
namespace Go.Proofs.YtedejleokilohaaGreatDoor
open Go
section
section
variable {P:Program} {G:Gl} {T:aE} {own:List Nat} {nt B:Nat} {c:Cx} {env:List (Nat×SV)} {a:Act} {ρ:Option Nat}
variable {o:Oper} {next:Act→World→Prop} {Q:Exit→Act→World→Prop} {k:SV→List az→Prop}
theorem eV {α:Type} [DecidableEq α] [BEq α] [LawfulBEq α] (x y:α):(x==y)=decide (x=y):=by
 by_cases h:x=y<;>simp[h]
theorem toList_mk (s:List UInt8):(ByteArray.mk ⟨s⟩).toList=s:=ByteArray.toList_eq _
theorem Bw {k:IntKind} {x y:Int} (h1:k.min≤x∧x≤k.max):k.min≤x.tmod y∧x.tmod y≤k.max:=by
 have hm:k.min≤0∧0≤k.max:=by cases k<;>simp[IntKind.min,IntKind.max,IntKind.signed,IntKind.bits]
 rcases Int.le_total 0 x with h|h
 ·have a1:=Int.tmod_nonneg y h
  have a2:x.tmod y≤x:=by
   rw[Int.tmod_eq_emod_of_nonneg h]
   rcases Int.lt_trichotomy y 0 with hy|hy|hy
   ·have:=Int.emod_lt_of_neg x hy
    have:=Int.emod_nonneg x (show y≠0 by omega)
    by_cases hxy:x< -y
    ·have:x % y=x:=by rw[← Int.emod_neg];exact Int.emod_eq_of_lt h hxy
     omega
    ·omega
   ·subst hy;simp
   ·by_cases hxy:x<y
    ·rw[Int.emod_eq_of_lt h hxy];exact Int.le_refl _
    ·have:=Int.emod_lt_of_pos x hy;omega
  omega
 ·have e:x.tmod y= -((-x).tmod y):=by rw[Int.neg_tmod];omega
  have hx:0≤ -x:=by omega
  have a1:=Int.tmod_nonneg y hx
  have a2:(-x).tmod y≤ -x:=by
   rw[Int.tmod_eq_emod_of_nonneg hx]
   rcases Int.lt_trichotomy y 0 with hy|hy|hy
   ·have:=Int.emod_lt_of_neg (-x) hy
    by_cases hxy: -x< -y
    ·have:(-x) % y= -x:=by rw[← Int.emod_neg];exact Int.emod_eq_of_lt hx hxy
     omega
    ·omega
   ·subst hy;simp
   ·by_cases hxy: -x<y
    ·rw[Int.emod_eq_of_lt hx hxy];exact Int.le_refl _
    ·have:=Int.emod_lt_of_pos (-x) hy;omega
  omega
theorem yO {k:IntKind} {x:Int} (h1:k.min≤x∧x≤k.max) (n:Nat):k.min≤x.fdiv (2 ^ n)∧x.fdiv (2 ^ n)≤k.max:=by
 have hm:k.min≤0∧0≤k.max:=by cases k<;>simp[IntKind.min,IntKind.max,IntKind.signed,IntKind.bits]
 have hp:(0:Int)<2 ^ n:=Int.pow_pos (by omega)
 have h1p:(1:Int)≤2 ^ n:=hp
 rw[Int.fdiv_eq_ediv_of_nonneg _ (Int.le_of_lt hp)]
 constructor
 ·rcases Int.le_total 0 x with h|h
  ·have:=Int.ediv_nonneg h (Int.le_of_lt hp);omega
  ·have:x≤x / 2 ^ n:=by
    rw[Int.le_ediv_iff_mul_le hp]
    have:=Int.mul_le_mul_of_nonpos_left h h1p
    omega
   omega
 ·rcases Int.le_total 0 x with h|h
  ·have:=Int.ediv_le_self (2 ^ n) h;omega
  ·have:=Int.ediv_nonpos_of_nonpos_of_neg h hp
   omega
theorem rN {t:Nat} (hT:aq P T) (h:fE T t=1):P.underlying t=some .bool:=by
 unfold fE at h
 split at h<;>first|(rename_i q;exact(hT _ _ q).1)|omega
theorem fM {t:Nat} (hT:aq P T) (h:fE T t=2):∃ e,P.underlying t=some (.slice e):=by
 unfold fE at h
 split at h<;>first|(rename_i q;exact⟨_,(hT _ _ q).1⟩)|omega
theorem mA {t:Nat} (hT:aq P T) (h:fE T t=3):∃ k e,P.underlying t=some (.map k e):=by
 unfold fE at h
 split at h<;>first|(rename_i q;exact⟨_,_,(hT _ _ q).1⟩)|omega
theorem gX {t:Nat} (hT:aq P T) (h:fE T t=4):∃ e,P.underlying t=some (.pointer e):=by
 unfold fE at h
 split at h<;>first|(rename_i q;exact⟨_,(hT _ _ q).1⟩)|omega
theorem dO {t e:TypeId} (hu:P.underlying t=some (.slice e)) (a:Option Addr) (n c0 n' c':Nat) (w:World):(Op.equal t (.slice a n c0) (.slice none n' c')).run P w= .ok a.isNone w:=by
 have:∀ d:Nat,(Op.equalIn (d+1) t (.slice a n c0) (.slice none n' c')).run P w= .ok a.isNone w:=fun d=>by cases a<;>simp[Op.equalIn,run_underlying hu]
 exact this 9999
theorem gw {t k e:TypeId} (hu:P.underlying t=some (.map k e)) (a:Option Nat) (w:World):(Op.equal t (.map a) (.map none)).run P w= .ok a.isNone w:=by
 have:∀ d:Nat,(Op.equalIn (d+1) t (.map a) (.map none)).run P w= .ok a.isNone w:=fun d=>by cases a<;>simp[Op.equalIn,run_underlying hu]
 exact this 9999
theorem eO {t e:TypeId} (hu:P.underlying t=some (.pointer e)) (a:Option Addr) (w:World):(Op.equal t (.pointer a) (.pointer none)).run P w= .ok a.isNone w:=by
 have:∀ d:Nat,(Op.equalIn (d+1) t (.pointer a) (.pointer none)).run P w= .ok a.isNone w:=fun d=>by cases a<;>simp[Op.equalIn,run_underlying hu]
 exact this 9999
theorem run_equalIn_bool {t:Nat} (hu:P.underlying t=some .bool) (d:Nat) (x y:Bool) (w:World):(Op.equalIn (d+1) t (.bool x) (.bool y)).run P w= .ok (x==y) w:=by
 simp[Op.equalIn,run_underlying hu]
theorem run_equal_bool {t:Nat} (hu:P.underlying t=some .bool) (x y:Bool) (w:World):(Op.equal t (.bool x) (.bool y)).run P w= .ok (x==y) w:=run_equalIn_bool hu 9999 x y w
theorem bK {op:BinOp} {t yt:Nat} {X Y:Operand} (ho:o.op= .binOp op t X Y yt) {v:Value} {w:World} (hr:(binOp op t (a.eval X) (a.eval Y)).run P w= .ok v w) (h1:∀ cs,a.eval X≠ .agg cs) (h2:a.eval X≠ .nilIface):(execOp a.eval o).run P w= .ok (.value v) w:=by
 simp only[execOp,ho]
 have hg:(eqGuard op t X Y (a.eval X) (a.eval Y)).run P w= .ok () w:=by
  unfold eqGuard
  cases op<;>simp<;>(split<;>first|rfl|(rename_i e _;exact absurd e h2)|(rename_i e _;exact absurd e (h1 _)))
 simp[hg,hr]
theorem bE (c:Cx) (b:Bool):aG c (.bool b) (.bool b):=by simp only[aG]
theorem fF (c:Cx) (i:IntKind) (e:Int):aG c (.int i (i.wrap e)) (.int i (i.wrap e)):=by simp only[aG];exact⟨trivial,sY _ _⟩
theorem EY {op:BinOp} {t:Nat} {Hb:List az} {tb:Nat} {i j:IntKind} {m n:Int} (rx:i.min≤m∧m≤i.max) {K:SV→Prop} (h:ec Hb tb op (.int i m) (.int j n) K):
 ∃ z u,K z∧aG c z u∧(binOp op t (.int i m) (.int j n)).run P c.w= .ok u c.w:=by
 cases op with
 |shl=>obtain⟨h1,h2⟩:=h;exact⟨_,_,h2,fF c _ _,by simp[binOp,Op.shift,show ¬ n<0 by omega]⟩
 |shr=>obtain⟨h1,h2⟩:=h;exact⟨_,.int i (m.fdiv (2 ^ min n.toNat i.bits)),h2,by simp only[aG];exact⟨trivial,yO rx _⟩,by simp[binOp,Op.shift,show ¬ n<0 by omega]⟩
 |add=>
  simp only[ec] at h
  split at h
  ·rename_i e;subst e;exact⟨_,_,h,fF c _ _,by simp[binOp,Op.intArith]⟩
  ·exact h.elim
 |sub=>
  simp only[ec] at h
  split at h
  ·rename_i e;subst e;exact⟨_,_,h,fF c _ _,by simp[binOp,Op.intArith]⟩
  ·exact h.elim
 |mul=>
  simp only[ec] at h
  split at h
  ·rename_i e;subst e;exact⟨_,_,h,fF c _ _,by simp[binOp,Op.intArith]⟩
  ·exact h.elim
 |quo=>
  simp only[ec] at h
  split at h
  ·rename_i e;subst e;obtain⟨h1,h2⟩:=h;exact⟨_,_,h2,fF c _ _,by simp[binOp,Op.intDiv,h1]⟩
  ·exact h.elim
 |rem=>
  simp only[ec] at h
  split at h
  ·rename_i e;subst e;obtain⟨h1,h2⟩:=h;exact⟨_,.int i (m.tmod n),h2,by simp only[aG];exact⟨trivial,Bw rx⟩,by simp[binOp,Op.intDiv,h1]⟩
  ·exact h.elim
 |and=>
  simp only[ec] at h
  split at h
  ·rename_i e;subst e;obtain⟨r,h1,h2⟩:=h;simp only[k8,Option.some.injEq] at h1;subst h1;exact⟨_,_,h2,fF c _ _,by simp[binOp,Op.intBits]⟩
  ·exact h.elim
 |or=>
  simp only[ec] at h
  split at h
  ·rename_i e;subst e;obtain⟨r,h1,h2⟩:=h;simp only[k8,Option.some.injEq] at h1;subst h1;exact⟨_,_,h2,fF c _ _,by simp[binOp,Op.intBits]⟩
  ·exact h.elim
 |xor=>
  simp only[ec] at h
  split at h
  ·rename_i e;subst e;obtain⟨r,h1,h2⟩:=h;simp only[k8,Option.some.injEq] at h1;subst h1;exact⟨_,_,h2,fF c _ _,by simp[binOp,Op.intBits]⟩
  ·exact h.elim
 |andNot=>
  simp only[ec] at h
  split at h
  ·rename_i e;subst e;obtain⟨r,h1,h2⟩:=h;simp only[k8,Option.some.injEq] at h1;subst h1;exact⟨_,_,h2,fF c _ _,by simp[binOp,Op.intBits]⟩
  ·exact h.elim
 |eql=>
  simp only[ec] at h
  split at h
  ·rename_i e;subst e;obtain⟨r,h1,h2⟩:=h;simp only[wc,Option.some.injEq] at h1;subst h1;exact⟨_,_,h2,bE c _,by simp[binOp,Op.intCmp,bne,eV]⟩
  ·exact h.elim
 |neq=>
  simp only[ec] at h
  split at h
  ·rename_i e;subst e;obtain⟨r,h1,h2⟩:=h;simp only[wc,Option.some.injEq] at h1;subst h1;exact⟨_,_,h2,bE c _,by simp[binOp,Op.intCmp,bne,eV]⟩
  ·exact h.elim
 |lss=>
  simp only[ec] at h
  split at h
  ·rename_i e;subst e;obtain⟨r,h1,h2⟩:=h;simp only[wc,Option.some.injEq] at h1;subst h1;exact⟨_,_,h2,bE c _,by simp[binOp,Op.intCmp,bne,eV]⟩
  ·exact h.elim
 |leq=>
  simp only[ec] at h
  split at h
  ·rename_i e;subst e;obtain⟨r,h1,h2⟩:=h;simp only[wc,Option.some.injEq] at h1;subst h1;exact⟨_,_,h2,bE c _,by simp[binOp,Op.intCmp,bne,eV]⟩
  ·exact h.elim
 |gtr=>
  simp only[ec] at h
  split at h
  ·rename_i e;subst e;obtain⟨r,h1,h2⟩:=h;simp only[wc,Option.some.injEq] at h1;subst h1;exact⟨_,_,h2,bE c _,by simp[binOp,Op.intCmp,bne,eV]⟩
  ·exact h.elim
 |geq=>
  simp only[ec] at h
  split at h
  ·rename_i e;subst e;obtain⟨r,h1,h2⟩:=h;simp only[wc,Option.some.injEq] at h1;subst h1;exact⟨_,_,h2,bE c _,by simp[binOp,Op.intCmp,bne,eV]⟩
  ·exact h.elim
theorem EZ {op:BinOp} {t:Nat} {Hb:List az} {tb:Nat} {s r:List UInt8} {K:SV→Prop} (h:ec Hb tb op (.str s) (.str r) K):
 ∃ z u,K z∧aG c z u∧(Op.stringOp op ⟨⟨s⟩⟩ ⟨⟨r⟩⟩).run P c.w= .ok u c.w:=by
 cases op with
 |add=>
  obtain⟨h1,h2⟩:=h
  refine⟨.str (s++r),.string ⟨⟨s++r⟩⟩,h2,by simp only[aG];exact⟨trivial,by simpa using h1⟩,?_⟩
  rw[run_string_add_sum]
  ·rw[show(ByteArray.mk ⟨s⟩++ByteArray.mk ⟨r⟩)=ByteArray.mk ⟨s++r⟩ from ByteArray.ext (by rw[ByteArray.data_append];simp)]
  ·have:(ByteArray.mk ⟨s⟩).size=s.length:=rfl
   have:(ByteArray.mk ⟨r⟩).size=r.length:=rfl
   unfold maxLen at h1;omega
 |eql=>obtain⟨b,h1,h2⟩:=h;simp only[we,Option.some.injEq] at h1;subst h1;exact⟨_,_,h2,bE c _,by simp[Op.stringOp,toList_mk,dK,eV]⟩
 |neq=>obtain⟨b,h1,h2⟩:=h;simp only[we,Option.some.injEq] at h1;subst h1;exact⟨_,_,h2,bE c _,by simp[Op.stringOp,toList_mk,dK,eV]⟩
 |lss=>obtain⟨b,h1,h2⟩:=h;simp only[we,Option.some.injEq] at h1;subst h1;exact⟨_,_,h2,bE c _,by simp[Op.stringOp,toList_mk,dK,eV]⟩
 |leq=>obtain⟨b,h1,h2⟩:=h;simp only[we,Option.some.injEq] at h1;subst h1;exact⟨_,_,h2,bE c _,by simp[Op.stringOp,toList_mk,dK,eV]⟩
 |gtr=>obtain⟨b,h1,h2⟩:=h;simp only[we,Option.some.injEq] at h1;subst h1;exact⟨_,_,h2,bE c _,by simp[Op.stringOp,toList_mk,dK,eV]⟩
 |geq=>obtain⟨b,h1,h2⟩:=h;simp only[we,Option.some.injEq] at h1;subst h1;exact⟨_,_,h2,bE c _,by simp[Op.stringOp,toList_mk,dK,eV]⟩
 |_=>obtain⟨b,h1,h2⟩:=h;cases h1
theorem CG {x y:SV} {b:Bool} (h:s9 x y=some b):1≤iY x:=by
 cases x<;>cases y<;>simp[s9] at h<;>simp[iY]
 split<;>omega
theorem wI (x:SV):iY x<6:=by cases x<;>simp[iY]<;>split<;>omega
theorem rj (T:aE) (t:Nat):1≤wJ T t∧wJ T t<8:=by
 unfold wJ
 split
 ·split<;>omega
 all_goals omega
theorem mY {t:Nat} {d:TypeDesc} (hu:P.underlying t=some d) (hrow:d.isRow=false) {U:Array Value} {off:Nat} {u:Value} (h:U[off]? =some u) (w:World):(part t U off).run P w= .ok u w:=by
 have hag:(isAgg t).run P w= .ok false w:=by
  unfold isAgg
  rw[Sem.run_bind,run_underlying hu w]
  cases d<;>first|rfl|cases hrow
 simp only[part,Sem.run_bind,hag,Result.andThen_ok,Bool.false_eq_true,if_false,h,Sem.run_pure]
theorem Fv (hT:aq P T) {t:Nat} {x y:SV} {u v:Value} {b:Bool} (hx:aG c x u) (hy:aG c y v) (hd:wJ T t=iY x) (h:s9 x y=some b) (d:Nat) (w:World):
 (∃ ds,P.underlying t=some ds∧ds.isRow=false)∧(Op.equalIn (d+1) t u v).run P w= .ok b w:=by
 have hp:=rj T t
 clear hp
 have hlt:=wI x
 unfold wJ at hd
 split at hd
 ·rename_i k _ _ _ hg
  have hu:P.underlying t=some (.int k):=(hT _ _ hg).1
  by_cases hk:k= .i64
  ·subst hk
   rw[if_pos rfl] at hd
   cases x with
   |int i m=>
    simp only[iY] at hd
    split at hd
    ·rename_i hi;subst hi
     cases y with
     |int j n=>
      simp only[s9] at h
      split at h
      ·rename_i hj
       subst hj
       cases h
       simp only[aG] at hx hy
       rw[hx.1,hy.1]
       exact⟨⟨_,hu,rfl⟩,by rw[run_equalIn_int _ _ _ _ _ _ _ hu,eV]⟩
      ·cases h
     |_=>cases h
    ·omega
   |_=>simp[iY] at hd
  ·rw[if_neg hk] at hd;omega
 ·rename_i hg
  have hu:P.underlying t=some .string:=(hT _ _ hg).1
  cases x with
  |str s=>
   cases y with
   |str r=>
    simp only[s9] at h
    cases h
    simp only[aG] at hx hy
    rw[hx.1,hy.1]
    exact⟨⟨_,hu,rfl⟩,by rw[run_equalIn_string _ _ _ _ _ hu,toList_mk,toList_mk,eV]⟩
   |_=>cases h
  |int i m=>simp only[iY] at hd;split at hd<;>omega
  |_=>simp[iY] at hd
 ·rename_i hg
  have hu:P.underlying t=some .bool:=(hT _ _ hg).1
  cases x with
  |bool s=>
   cases y with
   |bool r=>
    simp only[s9] at h
    cases h
    simp only[aG] at hx hy
    rw[hx,hy]
    exact⟨⟨_,hu,rfl⟩,run_equalIn_bool' _ _ _ _ _ hu⟩
   |_=>cases h
  |int i m=>simp only[iY] at hd;split at hd<;>omega
  |_=>simp[iY] at hd
 ·omega
theorem pU (hT:aq P T) {U V:Array Value} (d:Nat) (w:World):∀ (l:List Field) (n:Nat) (xs ys:List SV) (us vs:List Value) (b:Bool),l.map (fun f=>f.offset)=List.range' n l.length→(∀ f∈l,f.name≠ "_")→
 nM T (l.map fun f=>(f.offset,f.type))=dY xs→o9 xs ys=some b→aD c xs us→aD c ys vs→(∀ j u,us[j]? =some u→U[n+j]? =some u)→(∀ j u,vs[j]? =some u→V[n+j]? =some u)→
 (Op.eqFields (d+1) U V l).run P w= .ok b w
 |[],n,xs,ys,us,vs,b,h1,h2,h3,h4,h5,h6,h7,h8=>by
  cases xs with
  |nil=>
   cases ys with
   |nil=>simp[o9] at h4;subst h4;simp[Op.eqFields]
   |cons=>cases h4
  |cons x xs=>
   cases ys with
   |nil=>cases h4
   |cons y ys=>
    simp only[o9] at h4
    cases he:s9 x y with
    |none=>rw[he] at h4;cases h4
    |some r=>
     simp only[List.map_nil,nM,dY] at h3
     have:=CG he
     omega
 |f::l,n,xs,ys,us,vs,b,h1,h2,h3,h4,h5,h6,h7,h8=>by
  cases xs with
  |nil=>simp only[List.map_cons,nM,dY] at h3;have:=rj T f.type;omega
  |cons x xs=>
   cases ys with
   |nil=>cases h4
   |cons y ys=>
    simp only[o9] at h4
    cases he:s9 x y with
    |none=>rw[he] at h4;cases h4
    |some r=>
     rw[he] at h4
     simp only at h4
     cases he2:o9 xs ys with
     |none=>rw[he2] at h4;cases h4
     |some r2=>
      rw[he2] at h4
      simp only[Option.some.injEq] at h4
      obtain⟨u,us',hu,hus,rfl⟩:=aD.bC.1 h5
      obtain⟨v,vs',hv,hvs,rfl⟩:=aD.bC.1 h6
      simp only[List.map_cons,nM,dY] at h3
      have q1:=rj T f.type
      have q2:=wI x
      have hdig:wJ T f.type=iY x:=by omega
      have hcode:nM T (l.map fun f=>(f.offset,f.type))=dY xs:=by omega
      simp only[List.map_cons,List.length_cons,List.range'_succ,List.cons.injEq] at h1
      obtain⟨⟨ds,hds,hrow⟩,heq⟩:=Fv hT hu hv hdig he d w
      have hpu:=mY (P:=P) hds hrow (U:=U) (off:=f.offset) (by rw[h1.1];exact h7 0 u rfl) w
      have hpv:=mY (P:=P) hds hrow (U:=V) (off:=f.offset) (by rw[h1.1];exact h8 0 v rfl) w
      have ih:=pU hT (U:=U) (V:=V) d w l (n+1) xs ys us' vs' r2 h1.2 (fun g hg=>h2 g (List.mem_cons_of_mem _ hg)) hcode he2 hus hvs
       (fun j q hq=>by have:=h7 (j+1) q (by simpa using hq);rwa[Nat.add_assoc,Nat.add_comm 1 j]) (fun j q hq=>by have:=h8 (j+1) q (by simpa using hq);rwa[Nat.add_assoc,Nat.add_comm 1 j])
      simp only[Op.eqFields,if_pos (h2 f (List.mem_cons_self ..)),Sem.run_bind,hpu,hpv,heq,Result.andThen_ok,Sem.run_ite]
      subst h4
      cases r with
      |true=>simpa using ih
      |false=>simp
theorem B4 (hT:aq P T) {t:Nat} {xs ys:List SV} {u v:Value} {b:Bool} (hx:aG c (.agg xs) u) (hy:aG c (.agg ys) v) (hk:fE T t=5+dY xs) (h:o9 xs ys=some b) (w:World):
 ∃ U V,u= .agg U∧v= .agg V∧P.eqGuardType P.depth t=false∧(Op.equalIn 10000 t (.agg U) (.agg V)).run P w= .ok b w:=by
 obtain⟨us,hus,_,rfl,_,_⟩:=hx.eL
 obtain⟨vs,hvs,_,rfl,_,_⟩:=hy.eL
 unfold fE at hk
 split at hk
 all_goals first
  |omega
  |skip
 rename_i fs _ _ _ hg
 obtain⟨⟨fl,hfl,hfs⟩,hpl⟩:=(hT _ _ hg).1
 obtain⟨⟨p1,p2⟩,fl',hfl',p3,p4⟩:=hpl rfl
 rw[hfl] at hfl'
 cases hfl'
 refine⟨_,_,rfl,rfl,p2,?_⟩
 have hfo:P.fieldsOf t=fl:=by unfold Program.fieldsOf;rw[hfl]
 rw[run_equalIn_struct w 9999 t _ _ (by rw[hfo];exact hfl) p1,hfo]
 exact pU hT 9998 w fl.toList 0 xs ys us vs b (by rw[p3,List.range_eq_range'];simp) p4 (by rw[hfs];omega) h hus hvs (fun j u hj=>by simpa using hj) (fun j u hj=>by simpa using hj)
theorem Cg {op:BinOp} {t yt:Nat} {X Y:Operand} (hT:aq P T) (ho:o.op= .binOp op t X Y yt) {x y:SV} (hx:aG c x (a.eval X)) (hy:aG c y (a.eval Y)) {K:SV→Prop} (h:ec c.H (fE T t) op x y K):
 ∃ z u,K z∧aG c z u∧(execOp a.eval o).run P c.w= .ok (.value u) c.w:=by
 cases x with
 |int i m=>
  cases y with
  |int j n=>
   simp only[aG] at hx hy
   obtain⟨z,u,h1,h2,h3⟩:=EY (P:=P) (c:=c) (t:=t) hx.2 h
   exact⟨z,u,h1,h2,bK ho (by rw[hx.1,hy.1];exact h3) (by rw[hx.1];intro _ e;cases e) (by rw[hx.1];intro e;cases e)⟩
  |_=>exact h.elim
 |str s=>
  cases y with
  |str r=>
   simp only[aG] at hx hy
   obtain⟨z,u,h1,h2,h3⟩:=EZ (P:=P) (c:=c) (t:=t) h
   exact⟨z,u,h1,h2,bK ho (by rw[hx.1,hy.1];simp only[binOp];exact h3) (by rw[hx.1];intro _ e;cases e) (by rw[hx.1];intro e;cases e)⟩
  |_=>exact h.elim
 |bool s=>
  cases y with
  |bool r=>
   simp only[aG] at hx hy
   cases op with
   |eql=>
    obtain⟨h1,h2⟩:=h
    exact⟨_,.bool (s==r),h2,bE c _,bK ho (by rw[hx,hy];simp only[binOp,Sem.run_bind,run_equal_bool (rN hT h1),Result.andThen_ok,Sem.run_pure]) (by rw[hx];intro _ e;cases e) (by rw[hx];intro e;cases e)⟩
   |neq=>
    obtain⟨h1,h2⟩:=h
    exact⟨_,.bool (!(s==r)),h2,bE c _,bK ho (by rw[hx,hy];simp only[binOp,Sem.run_bind,run_equal_bool (rN hT h1),Result.andThen_ok,Sem.run_pure]) (by rw[hx];intro _ e;cases e) (by rw[hx];intro e;cases e)⟩
   |_=>exact h.elim
  |_=>exact h.elim
 |nil=>
  cases y with
  |nil=>
   simp only[aG] at hx hy
   cases op with
   |eql=>obtain⟨h1,h2⟩:=h;obtain⟨e,hu⟩:=fM hT h1;exact⟨_,.bool true,h2,bE c _,bK ho (by rw[hx,hy];simp only[binOp,Sem.run_bind,dO hu,Result.andThen_ok,Sem.run_pure];rfl) (by rw[hx];intro _ e;cases e) (by rw[hx];intro e;cases e)⟩
   |neq=>obtain⟨h1,h2⟩:=h;obtain⟨e,hu⟩:=fM hT h1;exact⟨_,.bool false,h2,bE c _,bK ho (by rw[hx,hy];simp only[binOp,Sem.run_bind,dO hu,Result.andThen_ok,Sem.run_pure];rfl) (by rw[hx];intro _ e;cases e) (by rw[hx];intro e;cases e)⟩
   |_=>exact h.elim
  |_=>exact h.elim
 |list sz xs=>
  cases y with
  |nil=>
   simp only[aG] at hx hy
   obtain⟨a0,cap,hx,h5,h6,h7⟩:=hx
   have hn:a0=none→xs=[]:=fun e=>by
    rcases h7 with h7|⟨b,o',vs,h8,_⟩
    ·exact h7
    ·rw[e] at h8;cases h8
   cases op with
   |eql=>
    obtain⟨h1,h2,h3⟩:=h
    obtain⟨e,hu⟩:=fM hT h1
    refine⟨.bool a0.isNone,.bool a0.isNone,?_,bE c _,bK ho (by rw[hx,hy];simp only[binOp,Sem.run_bind,dO hu,Result.andThen_ok,Sem.run_pure]) (by rw[hx];intro _ e;cases e) (by rw[hx];intro e;cases e)⟩
    cases a0 with
    |none=>exact h2 (hn rfl)
    |some _=>exact h3
   |neq=>
    obtain⟨h1,h2,h3⟩:=h
    obtain⟨e,hu⟩:=fM hT h1
    refine⟨.bool (!a0.isNone),.bool (!a0.isNone),?_,bE c _,bK ho (by rw[hx,hy];simp only[binOp,Sem.run_bind,dO hu,Result.andThen_ok,Sem.run_pure]) (by rw[hx];intro _ e;cases e) (by rw[hx];intro e;cases e)⟩
    cases a0 with
    |none=>exact h2 (hn rfl)
    |some _=>exact h3
   |_=>exact h.elim
  |_=>exact h.elim
 |sl id g off n=>
  cases y with
  |nil=>
   simp only[aG] at hy
   have key:∀ q,db c.H id g=some q→∃ a0 cap,a.eval X= .slice a0 n cap∧(a0=none→n=0):=fun q hq=>by
    have hb:=cL hq
    simp only[aG,hb] at hx
    rcases hx.2 with h2|⟨_,h2,a0,cap,h3,h4,h5,h6⟩
    ·omega
    ·refine⟨a0,cap,h3,fun e=>?_⟩
     rcases h6 with h6|⟨b,o',cs,Ty,fr,h6,h7,_⟩
     ·omega
     ·rw[e] at h7;cases h7
   cases op with
   |eql=>
    obtain⟨q,hq,h1,h2,h3⟩:=h
    obtain⟨a0,cap,hx,hn⟩:=key q hq
    obtain⟨e,hu⟩:=fM hT h1
    refine⟨.bool a0.isNone,.bool a0.isNone,?_,bE c _,bK ho (by rw[hx,hy];simp only[binOp,Sem.run_bind,dO hu,Result.andThen_ok,Sem.run_pure]) (by rw[hx];intro _ e;cases e) (by rw[hx];intro e;cases e)⟩
    cases a0 with
    |none=>exact h2 (hn rfl)
    |some _=>exact h3
   |neq=>
    obtain⟨q,hq,h1,h2,h3⟩:=h
    obtain⟨a0,cap,hx,hn⟩:=key q hq
    obtain⟨e,hu⟩:=fM hT h1
    refine⟨.bool (!a0.isNone),.bool (!a0.isNone),?_,bE c _,bK ho (by rw[hx,hy];simp only[binOp,Sem.run_bind,dO hu,Result.andThen_ok,Sem.run_pure]) (by rw[hx];intro _ e;cases e) (by rw[hx];intro e;cases e)⟩
    cases a0 with
    |none=>exact h2 (hn rfl)
    |some _=>exact h3
   |_=>exact h.elim
  |_=>exact h.elim
 |bM=>
  cases y with
  |bM=>
   simp only[aG] at hx hy
   cases op with
   |eql=>obtain⟨h1,h2⟩:=h;obtain⟨k0,e,hu⟩:=mA hT h1;exact⟨_,.bool true,h2,bE c _,bK ho (by rw[hx,hy];simp only[binOp,Sem.run_bind,gw hu,Result.andThen_ok,Sem.run_pure];rfl) (by rw[hx];intro _ e;cases e) (by rw[hx];intro e;cases e)⟩
   |neq=>obtain⟨h1,h2⟩:=h;obtain⟨k0,e,hu⟩:=mA hT h1;exact⟨_,.bool false,h2,bE c _,bK ho (by rw[hx,hy];simp only[binOp,Sem.run_bind,gw hu,Result.andThen_ok,Sem.run_pure];rfl) (by rw[hx];intro _ e;cases e) (by rw[hx];intro e;cases e)⟩
   |_=>exact h.elim
  |_=>exact h.elim
 |map id=>
  cases y with
  |bM=>
   simp only[aG] at hy
   have key:∀ q,jy c.H id=some q→∃ b,a.eval X= .map (some b):=fun q hq=>by
    unfold jy at hq
    split at hq
    ·rename_i hb
     simp only[aG,hb] at hx
     obtain⟨_,b,_,h⟩:=hx
     exact⟨b,h⟩
    ·cases hq
   cases op with
   |eql=>obtain⟨q,hq,h1,h2⟩:=h;obtain⟨b,hx⟩:=key q hq;obtain⟨k0,e,hu⟩:=mA hT h1;exact⟨_,.bool false,h2,bE c _,bK ho (by rw[hx,hy];simp only[binOp,Sem.run_bind,gw hu,Result.andThen_ok,Sem.run_pure];rfl) (by rw[hx];intro _ e;cases e) (by rw[hx];intro e;cases e)⟩
   |neq=>obtain⟨q,hq,h1,h2⟩:=h;obtain⟨b,hx⟩:=key q hq;obtain⟨k0,e,hu⟩:=mA hT h1;exact⟨_,.bool true,h2,bE c _,bK ho (by rw[hx,hy];simp only[binOp,Sem.run_bind,gw hu,Result.andThen_ok,Sem.run_pure];rfl) (by rw[hx];intro _ e;cases e) (by rw[hx];intro e;cases e)⟩
   |_=>exact h.elim
  |_=>exact h.elim
 |aV=>
  cases y with
  |aV=>
   simp only[aG] at hx hy
   cases op with
   |eql=>obtain⟨h1,h2⟩:=h;obtain⟨e,hu⟩:=gX hT h1;exact⟨_,.bool true,h2,bE c _,bK ho (by rw[hx,hy];simp only[binOp,Sem.run_bind,eO hu,Result.andThen_ok,Sem.run_pure];rfl) (by rw[hx];intro _ e;cases e) (by rw[hx];intro e;cases e)⟩
   |neq=>obtain⟨h1,h2⟩:=h;obtain⟨e,hu⟩:=gX hT h1;exact⟨_,.bool false,h2,bE c _,bK ho (by rw[hx,hy];simp only[binOp,Sem.run_bind,eO hu,Result.andThen_ok,Sem.run_pure];rfl) (by rw[hx];intro _ e;cases e) (by rw[hx];intro e;cases e)⟩
   |_=>exact h.elim
  |_=>exact h.elim
 |iR x0=>
  cases y with
  |aV=>
   simp only[aG] at hx hy
   obtain⟨b,o',u,hx,_⟩:=hx
   cases op with
   |eql=>obtain⟨h1,h2⟩:=h;obtain⟨e,hu⟩:=gX hT h1;exact⟨_,.bool false,h2,bE c _,bK ho (by rw[hx,hy];simp only[binOp,Sem.run_bind,eO hu,Result.andThen_ok,Sem.run_pure];rfl) (by rw[hx];intro _ e;cases e) (by rw[hx];intro e;cases e)⟩
   |neq=>obtain⟨h1,h2⟩:=h;obtain⟨e,hu⟩:=gX hT h1;exact⟨_,.bool true,h2,bE c _,bK ho (by rw[hx,hy];simp only[binOp,Sem.run_bind,eO hu,Result.andThen_ok,Sem.run_pure];rfl) (by rw[hx];intro _ e;cases e) (by rw[hx];intro e;cases e)⟩
   |_=>exact h.elim
  |_=>exact h.elim
 |ptr id g j off=>
  cases y with
  |aV=>
   simp only[aG] at hy
   have key:∀ q,db c.H id g=some q→∃ p,a.eval X= .pointer (some p):=fun q hq=>by
    obtain⟨_,b,o',_,h3⟩:=hx.mG (cL hq)
    exact⟨_,h3⟩
   cases op with
   |eql=>obtain⟨q,hq,h1,h2⟩:=h;obtain⟨p,hx⟩:=key q hq;obtain⟨e,hu⟩:=gX hT h1;exact⟨_,.bool false,h2,bE c _,bK ho (by rw[hx,hy];simp only[binOp,Sem.run_bind,eO hu,Result.andThen_ok,Sem.run_pure];rfl) (by rw[hx];intro _ e;cases e) (by rw[hx];intro e;cases e)⟩
   |neq=>obtain⟨q,hq,h1,h2⟩:=h;obtain⟨p,hx⟩:=key q hq;obtain⟨e,hu⟩:=gX hT h1;exact⟨_,.bool true,h2,bE c _,bK ho (by rw[hx,hy];simp only[binOp,Sem.run_bind,eO hu,Result.andThen_ok,Sem.run_pure];rfl) (by rw[hx];intro _ e;cases e) (by rw[hx];intro e;cases e)⟩
   |_=>exact h.elim
  |_=>exact h.elim
 |agg xs=>
  cases y with
  |agg ys=>
   cases op with
   |eql=>
    obtain⟨⟨h1,h2⟩,b,h3,h4⟩:=h
    obtain⟨U,V,hU,hV,hg,he⟩:=B4 hT hx hy h1 h3 c.w
    refine⟨_,.bool b,h4,bE c _,?_⟩
    simp only[execOp,ho,hU,hV,Sem.run_bind,run_eqGuard_agg _ _ _ _ _ _ _ hg,Result.andThen_ok,run_eql_struct,he]
    simp
   |neq=>
    obtain⟨⟨h1,h2⟩,b,h3,h4⟩:=h
    obtain⟨U,V,hU,hV,hg,he⟩:=B4 hT hx hy h1 h3 c.w
    refine⟨_,.bool (!b),h4,bE c _,?_⟩
    simp only[execOp,ho,hU,hV,Sem.run_bind,run_eqGuard_agg _ _ _ _ _ _ _ hg,Result.andThen_ok,run_neq_struct,he]
    simp
   |_=>exact h.elim
  |_=>exact h.elim
 |_=>exact h.elim
theorem oI {op:BinOp} {t:Nat} {x:Operand} {a b:Value} {z:Value} {w:World} (h:∀ cs,a≠ .agg cs):(eqGuard op t x (.const z) a b).run P w= .ok () w:=by
 unfold eqGuard
 cases op<;>simp<;>(split<;>first|rfl|(exact absurd rfl (h _))|simp)
theorem Db {op:BinOp} {t yt:Nat} {X Y:Operand} (hT:aq P T) (ho:o.op= .binOp op t X Y yt) (hn:np Y=true) {x:SV} (hx:aG c x (a.eval X)) {K:SV→Prop} (h:rF (tR T t) op x K):
 ∃ z u,K z∧aG c z u∧(execOp a.eval o).run P c.w= .ok (.value u) c.w:=by
 obtain rfl:Y= .const .nilIface:=by
  unfold np at hn
  split at hn
  ·rfl
  ·cases hn
 have hif:tR T t=true→∃ m,P.underlying t=some (.interface m):=fun hi=>by
  unfold tR at hi
  split at hi
  ·rename_i q;exact(hT _ _ q).1
  ·cases hi
 have hy:a.eval (.const .nilIface)= .nilIface:=rfl
 unfold rF at h
 split at h
 ·rename_i z
  have hv:(z=true∧a.eval X= .nilIface)∨(z=false∧∃ te pe,a.eval X= .iface te pe):=by
   cases z with
   |true=>simp only[aG] at hx;exact .inl ⟨rfl,hx⟩
   |false=>simp only[aG] at hx;exact .inr ⟨rfl,hx⟩
  have hag:∀ cs,a.eval X≠ .agg cs:=fun cs e=>by
   rcases hv with⟨_,q⟩|⟨_,_,_,q⟩<;>(rw[q] at e;cases e)
  have hg:=oI (P:=P) (op:=op) (t:=t) (x:=X) (b:= .nilIface) (z:= .nilIface) (w:=c.w) hag
  have heq:∀ m,P.underlying t=some (.interface m)→(Op.equal t (a.eval X) .nilIface).run P c.w= .ok z c.w:=fun m hu=>by
   have:∀ d:Nat,(Op.equalIn (d+1) t (a.eval X) .nilIface).run P c.w= .ok z c.w:=fun d=>by
    rcases hv with⟨rfl,q⟩|⟨rfl,_,_,q⟩<;>(rw[q];simp[Op.equalIn,run_underlying hu])
   exact this 9999
  have hb:∀ b':Bool,(binOp op t (a.eval X) .nilIface).run P c.w= .ok (.bool b') c.w→(execOp a.eval o).run P c.w= .ok (.value (.bool b')) c.w:=fun b' hr=>by
   simp only[execOp,ho,hy]
   simp[hg,hr]
  cases op with
  |eql=>
   obtain⟨h1,h2⟩:=h
   obtain⟨m,hu⟩:=hif h1
   refine⟨_,.bool z,h2,bE c _,hb z ?_⟩
   rcases hv with⟨_,q⟩|⟨_,_,_,q⟩<;>(have he:=heq m hu;rw[q] at he ⊢;simp only[binOp,Sem.run_bind,he,Result.andThen_ok,Sem.run_pure])
  |neq=>
   obtain⟨h1,h2⟩:=h
   obtain⟨m,hu⟩:=hif h1
   refine⟨_,.bool (!z),h2,bE c _,hb (!z) ?_⟩
   rcases hv with⟨_,q⟩|⟨_,_,_,q⟩<;>(have he:=heq m hu;rw[q] at he ⊢;simp only[binOp,Sem.run_bind,he,Result.andThen_ok,Sem.run_pure])
  |_=>exact h.elim
 ·exact h.elim
theorem Er {op:BinOp} {t yt:Nat} {x y:Operand} (hT:aq P T) (hi:Inv G nt B c env a) (ho:o.op= .binOp op t x y yt) (h:c7 P G T own env c.H o.dst o.type (.binOp op t x y yt) k)
 (hk:∀ x c' u,k x c'.H→aT c'→aG c' x u→Grow c c'→next (a.put o.dst u) c'.w):o.wpIn (FR ρ) 0 P a c.w next Q:=by
 obtain⟨p,h1,q,h2,h3⟩:=h
 obtain⟨z,u,e1,e2,e3⟩:∃ z u,k z c.H∧aG c z u∧(execOp a.eval o).run P c.w= .ok (.value u) c.w:=by
  cases hn:np y with
  |true=>exact Db hT ho hn (bZ hi h1) (h3.1 hn)
  |false=>exact Cg hT ho (bZ hi h1) (bZ hi h2) (h3.2 hn)
 exact wp_pure hi hk (by rw[ho];intro _ e;cases e) e2 e1 e3
end
end
section
section
variable {P:Program} {G:Gl} {T:aE} {own:List Nat} {nt B:Nat} {c:Cx} {env:List (Nat×SV)} {a:Act} {ρ:Option Nat}
variable {o:Oper} {next:Act→World→Prop} {Q:Exit→Act→World→Prop} {k:SV→List az→Prop}
theorem ig (hi:Inv G nt B c env a) {x:Option Operand} {d n:Int} (h:cG G env x d=some n):(x=none∧n=d)∨∃ y i,x=some y∧a.eval y= .int i n:=by
 cases x with
 |none=>simp only[cG,Option.some.injEq] at h;exact .inl ⟨rfl,h.symm⟩
 |some y=>
  simp only[cG] at h
  split at h
  ·rename_i v hv
   obtain⟨i,rfl⟩:=jI h
   have:=bZ hi hv
   simp only[aG] at this
   exact .inr ⟨y,i,rfl,this.1⟩
  ·cases h
theorem sw {isS:Bool} {len cap:Nat} {lo hi:Option Value} {l h:Int} (hlo:(lo=none∧l=0)∨∃ i,lo=some (.int i l)) (hhi:(hi=none∧h=(len:Int))∨∃ i,hi=some (.int i h))
 (h0:0≤l) (h1:l≤h) (h2:h≤(cap:Int)) (w:World):(Instr.sliceBounds isS len cap lo hi none).run P w= .ok (l.toNat,h.toNat,cap) w:=by
 have e1:0≤h∧h≤(cap:Int):=⟨by omega,by omega⟩
 have e2:0≤l∧l≤((h.toNat:Nat):Int):=⟨h0,by omega⟩
 rcases hlo with⟨rfl,rfl⟩|⟨i,rfl⟩<;>rcases hhi with⟨rfl,rfl⟩|⟨j,rfl⟩<;>
  simp[Instr.sliceBounds,Instr.sliceBound,asIntOf,e1,e2]<;>(intro hx;exact absurd hx (by omega))
theorem Ev {t:Nat} {x:Operand} {lo hi':Option Operand} (hT:aq P T) (hi:Inv G nt B c env a) (ho:o.op= .slice t x lo hi' none) (h:c7 P G T own env c.H o.dst o.type (.slice t x lo hi' none) k)
 (hk:∀ x c' u,k x c'.H→aT c'→aG c' x u→Grow c c'→next (a.put o.dst u) c'.w):o.wpIn (FR ρ) 0 P a c.w next Q:=by
 obtain⟨i,h1,v,h2,n,h3,l,h4,hh,h5,⟨e1,e2,e3⟩,y,h6,h7⟩:=h
 have hv:=bZ hi h2
 have hlo:(lo.map a.eval=none∧l=0)∨∃ i,lo.map a.eval=some (.int i l):=by
  rcases ig hi h4 with⟨rfl,rfl⟩|⟨z,i,rfl,hz⟩
  ·exact .inl ⟨rfl,rfl⟩
  ·exact .inr ⟨i,by simp[hz]⟩
 have hhi:(hi'.map a.eval=none∧hh=(n:Int))∨∃ i,hi'.map a.eval=some (.int i hh):=by
  rcases ig hi h5 with⟨rfl,rfl⟩|⟨z,i,rfl,hz⟩
  ·exact .inl ⟨rfl,rfl⟩
  ·exact .inr ⟨i,by simp[hz]⟩
 have hd:∀ c,o.op≠ .defer c:=by rw[ho];intro _ e;cases e
 have hti:=hT t i h1
 split at h7
 ·rename_i e0 he
  obtain⟨e,hel,hs,hz,h7⟩:=h7
  obtain⟨hu,hei⟩:=dS hT hel
  obtain⟨info,i1,i2,_⟩:=eQ hei
  have hrun:∀ aa len cap,a.eval x= .slice aa len cap→n=len→hh≤(cap:Int)→(execOp a.eval o).run P c.w= .ok (.value (.slice (if cap=l.toNat then aa else aa.map (·.add (l.toNat*e.2.size))) (hh.toNat - l.toNat) (cap - l.toNat))) c.w:=fun aa len cap hx hn hc=>by
   subst hn
   have hb:=sw (P:=P) (isS:=true) (cap:=cap) hlo hhi e1 e2 hc c.w
   simp[execOp,ho,Instr.sliceAt,run_underlying hu,Instr.slice,hx,hb,sizeOf,typeInfo,i1,i2]
  cases v with
  |nil=>
   simp only[fp,Option.some.injEq] at h3;subst h3
   simp only[rh,Option.some.injEq] at h6;subst h6
   simp only[aG] at hv
   simp only[qV] at e3
   have hl0:l=0:=by omega
   have hh0:hh=0:=by omega
   subst hl0 hh0
   refine wp_pure hi hk hd (u:= .slice none 0 0) (by simp only[aG]) h7 ?_
   simpa using hrun none 0 0 hv rfl (by simp)
  |list sz xs=>
   simp only[fp,Option.some.injEq] at h3;subst h3
   simp only[rh,Option.some.injEq] at h6;subst h6
   simp only[kU,beq_iff_eq] at hz;subst hz
   simp only[aG] at hv
   obtain⟨aa,cap,g1,g2,g3,g4⟩:=hv
   have e3:hh≤(xs.length:Int):=by
    rcases e3 with e3|e3
    ·exact e3
    ·simp only[qV] at e3;omega
   refine wp_pure hi hk hd ?_ h7 (hrun aa _ cap g1 rfl (by omega))
   have hlen:((xs.drop l.toNat).take (hh.toNat - l.toNat)).length=hh.toNat - l.toNat:=by simp;omega
   simp only[aG]
   refine⟨_,cap - l.toNat,by rw[hlen],by rw[hlen];omega,by omega,?_⟩
   by_cases h0:hh.toNat - l.toNat=0
   ·exact .inl (by rw[h0];simp)
   ·rcases g4 with g4|⟨b,o',vs,g4,g5,g6,g7,g8⟩
    ·subst g4;simp at e3;omega
    ·subst g4
     rw[if_neg (by omega)]
     refine .inr ⟨b,o'+l.toNat*e.2.size,(vs.drop l.toNat).take (hh.toNat - l.toNat),by simp[Addr.add_mid],(g5.drop _).take _,fun u hu=>g6 u (List.mem_of_mem_drop (List.mem_of_mem_take hu)),?_,g8⟩
     exact kQ (fj g7 (fun u hu=>(g6 u hu).1) _ (by rw[g5.length];omega)) _
  |sl id g off len=>
   simp only[fp,Option.some.injEq] at h3;subst h3
   simp only[rh,Option.some.injEq] at h6;subst h6
   simp only[kU] at hz
   split at hz
   ·rename_i sz vals hb
    simp only[beq_iff_eq] at hz;subst hz
    have hb':=cL hb
    simp only[aG,hb'] at hv
    rcases hv.2 with hv|⟨_,q1,aa,cap,q2,q3,q4,q5⟩
    ·omega
    have hcut:hh≤(cap:Int)∧off+hh.toNat≤vals.length:=by
     rcases e3 with e3|e3
     ·exact⟨by omega,by omega⟩
     ·simp only[qV,hb] at e3
      split at e3
      ·exact⟨by omega,by omega⟩
      ·rename_i hs0
       refine⟨?_,by omega⟩
       by_cases hh0:hh≤0
       ·omega
       rcases q5 with q5|⟨b,o',cs,Ty,fr,q5,q6,q7,q8⟩
       ·omega
       ·rcases hi.heap.eS id _ hb' with⟨h10,_⟩|⟨b',o2,cs2,Ty2,fr2,us,h10,h11,h12,h13,h14,h15⟩
        ·rw[q5] at h10;cases h10
        ·rw[q5] at h10;cases h10
         rw[q7] at h11;cases h11
         have hus:us.length=vals.length:=h13.length
         have hsz:=fk q7 h15 (by rw[br (fun u h=>(h14 u h).1),hus];exact Nat.mul_pos (by omega) (by omega))
         rw[br (fun u h=>(h14 u h).1),hus] at hsz
         have:vals.length*e.2.size≤(off+cap)*e.2.size:=by omega
         have:=Nat.le_of_mul_le_mul_right this (by omega)
         omega
    refine wp_pure hi hk hd ?_ h7 (hrun aa len cap q2 rfl hcut.1)
    simp only[aG,hb']
    refine⟨rfl,.inr ⟨trivial,by omega,_,cap - l.toNat,rfl,by omega,by omega,?_⟩⟩
    by_cases hc0:cap - l.toNat=0
    ·refine .inl ⟨hc0,?_⟩
     rcases Nat.eq_zero_or_pos e.2.size with hs0|hs0
     ·exact .inl hs0
     right
     rcases q5 with q5|⟨b,o',cs,Ty,fr,q5,q6,q7,q8⟩
     ·omega
     ·rcases hi.heap.eS id _ hb' with⟨h10,hvn⟩|⟨b',o2,cs2,Ty2,fr2,us,h10,h11,h12,h13,h14,h15⟩
      ·rw[hvn];exact Nat.zero_le _
      ·rw[q5] at h10;cases h10
       rw[q7] at h11;cases h11
       by_cases hv0:vals.length=0
       ·omega
       have hus:us.length=vals.length:=h13.length
       have hsz:=fk q7 h15 (by rw[br (fun u h=>(h14 u h).1),hus];exact Nat.mul_pos (by omega) hs0)
       rw[br (fun u h=>(h14 u h).1),hus] at hsz
       have:vals.length*e.2.size≤(off+cap)*e.2.size:=by omega
       have:=Nat.le_of_mul_le_mul_right this hs0
       omega
    ·rcases q5 with q5|⟨b,o',cs,Ty,fr,q5,q6,q7,q8⟩
     ·omega
     ·rw[if_neg (by omega)]
      subst q6
      refine .inr ⟨b,o',cs,Ty,fr,q5,by simp[Addr.add_mid,Nat.add_mul,Nat.add_assoc],q7,?_⟩
      rw[← q8]
      congr 2
      omega
   ·cases hz
  |_=>simp[ee] at hs
 ·rename_i he
  have hu:P.underlying t=some .string:=by have:=hti.1;rw[he] at this;exact this
  cases v with
  |str s=>
   simp only[fp,Option.some.injEq] at h3;subst h3
   simp only[rh,Option.some.injEq] at h6;subst h6
   simp only[aG] at hv
   have e3:hh≤(s.length:Int):=by
    rcases e3 with e3|e3
    ·exact e3
    ·simp only[qV] at e3;omega
   have hb:=sw (P:=P) (isS:=false) (cap:=s.length) hlo hhi e1 e2 e3 c.w
   refine wp_pure (u:= .string ⟨⟨(s.drop l.toNat).take (hh.toNat - l.toNat)⟩⟩) hi hk hd (by simp only[aG];exact⟨trivial,by simp;omega⟩) h7 ?_
   have hsz:(ByteArray.mk ⟨s⟩).size=s.length:=rfl
   have hex:(ByteArray.mk ⟨s⟩).extract l.toNat hh.toNat=⟨⟨(s.drop l.toNat).take (hh.toNat - l.toNat)⟩⟩:=by
    apply ByteArray.ext
    simp[List.extract_eq_take_drop]
   simp[execOp,ho,Instr.sliceAt,run_underlying hu,Instr.slice,hv.1,hsz,hb,hex]
  |_=>exact h7.elim
 ·exact h7.elim
theorem va (hT:aq P T) {e:Nat} (h:xb T e=true):P.underlying e=some (.int .u8):=by
 unfold xb at h
 split at h
 ·rename_i i hi
  have:=(hT _ _ hi).1
  split at h
  ·rename_i hd;rw[hd] at this;exact this
  ·cases h
 ·cases h
theorem zi (hT:aq P T) {st:Nat} {si:TI} (h0:T.get st=some si) (h:mI T si.d=true):∃ e,P.underlying st=some (.slice e)∧P.underlying e=some (.int .u8):=by
 unfold mI at h
 have:=(hT _ _ h0).1
 split at h
 ·rename_i e hd
  rw[hd] at this
  exact⟨e,this,va hT h⟩
 ·cases h
theorem o6 (w:World) (e:TypeId) (s:ByteArray):Lib.bytesWorld w e s=w.drew.alloc (.cells (Lib.bytesCells w e s) e ((Lib.bytesCells w e s).size,(Lib.bytesCells w e s).size+1)):=by
 unfold Lib.bytesWorld World.freeze
 rw[if_neg (by omega)]
 have:∀ (A:Array Obj) (x:Obj) (f:Obj→Obj),(A.push x).modify A.size f=A.push (f x):=by
  intro A x f
  apply Array.ext
  ·simp
  ·intro i h1 h2
   simp only[Array.size_modify,Array.size_push] at h1
   rw[Array.getElem_modify]
   rcases Nat.lt_or_ge i A.size with h|h
   ·rw[if_neg (by omega),Array.getElem_push_lt h,Array.getElem_push_lt h]
   ·have:i=A.size:=by omega
    subst this
    simp
 show({ w.drew.alloc (.cells (Lib.bytesCells w e s) e) with heap:=_}:World)=_
 simp only[World.alloc]
 congr 1
 exact this _ _ _
theorem dV {α:Type} {l:List α} {i:Nat} {x:α} (h:l[i]? =some x):l.set i x=l:=by
 apply List.ext_getElem?
 intro j
 rw[List.getElem?_set]
 split
 ·rename_i e
  subst e
  have:=(List.getElem?_eq_some_iff.1 h).1
  simp[this]
  exact((List.getElem?_eq_some_iff.1 h).2).symm
 ·rfl
theorem yP {w:World} {b:Nat} {cs:Array Value} {T:TypeId} {fr:Nat×Nat} (h:w.heap[b]? =some (.cells cs T fr)) (hf:fT cs fr):∃ fr',fT cs fr'∧(w.freeze ⟨b,cs.size,none⟩ 1).heap[b]? =some (.cells cs T fr')∧
 (∀ k,k≠b→(w.freeze ⟨b,cs.size,none⟩ 1).heap[k]? =w.heap[k]?)∧(w.freeze ⟨b,cs.size,none⟩ 1).heap.size=w.heap.size∧(w.freeze ⟨b,cs.size,none⟩ 1).os=w.os∧(w.freeze ⟨b,cs.size,none⟩ 1).tape=w.tape∧(w.freeze ⟨b,cs.size,none⟩ 1).output=w.output:=by
 refine⟨if fr.1==fr.2 then (cs.size,cs.size+1) else (min fr.1 cs.size,max fr.2 (cs.size+1)),?_,?_,?_,?_,?_,?_,?_⟩
 ·right
  split
  ·exact Nat.le_refl _
  ·rename_i e
   rcases hf with hf|hf
   ·simp[hf] at e
   ·simp only;omega
 ·simp[World.freeze,Array.getElem?_modify,h]
 ·intro k hk
  simp[World.freeze,Array.getElem?_modify,Ne.symm hk]
 all_goals simp[World.freeze]
theorem tf (c:Cx) (s:List UInt8):∃ vs,aD c (dW s) vs∧(∀ u∈vs,u.cells.size=1∧cI u)∧cellsOf vs=s.map fun b=>Value.int .u8 b.toNat:=by
 refine⟨s.map fun b=> .int .u8 b.toNat,?_,?_,?_⟩
 ·induction s with
  |nil=>exact aD.cw
  |cons b s ih=>
   refine aD.bT ?_ ih
   simp only[aG,IntKind.min,IntKind.max,IntKind.signed,IntKind.bits]
   have:=b.toNat_lt
   refine⟨trivial,?_,?_⟩<;>simp<;>omega
 ·intro u hu
  simp only[List.mem_map] at hu
  obtain⟨b,_,rfl⟩:=hu
  exact⟨rfl,fN rfl⟩
 ·have:∀ l:List UInt8,l.map (fun b=>Value.int .u8 b.toNat)=l.flatMap fun b=>[Value.int .u8 b.toNat]:=by intro l;induction l<;>simp_all
  simp only[cellsOf,List.flatMap_map]
  exact(this s).symm
theorem sO (c:Cx):∀ {xs:List SV} {s:List UInt8} {vs:List Value},strOf xs=some s→aD c xs vs→∃ ns:List Int,vs=ns.map (Value.int .u8)∧s=(ns.map fun n=>UInt8.ofNat n.toNat)∧cellsOf vs=vs∧ns.length=xs.length
 |[],s,vs,h,hr=>by
  simp only[aD] at hr
  subst hr
  cases h
  exact⟨[],rfl,rfl,rfl,rfl⟩
 |x::xs,s,vs,h,hr=>by
  simp only[aD] at hr
  obtain⟨u,us,h1,h2,rfl⟩:=hr
  unfold strOf at h
  split at h
  ·rename_i q;cases q
  ·rename_i n r q
   cases q
   split at h
   ·rename_i s' hs'
    cases h
    obtain⟨ns,e1,e2,e3,e4⟩:=sO c hs' h2
    simp only[aG] at h1
    refine⟨n::ns,by rw[h1.1,e1];rfl,by rw[e2];rfl,?_,by simp[e4]⟩
    have:cellsOf (u::us)=u.cells.toList++cellsOf us:=by simp[cellsOf]
    rw[this,e3,h1.1]
    rfl
   ·cases h
  ·cases h
theorem zt {st dt:Nat} {x:Operand} (hT:aq P T) (hi:Inv G nt B c env a) (ho:o.op= .convert st dt x) (h:c7 P G T own env c.H o.dst o.type (.convert st dt x) k)
 (hk:∀ x c' u,k x c'.H→aT c'→aG c' x u→Grow c c'→next (a.put o.dst u) c'.w):o.wpIn (FR ρ) 0 P a c.w next Q:=by
 obtain⟨si,h0,i,h1,v,h2,h3⟩:=h
 have hv:=bZ hi h2
 have hd:∀ c,o.op≠ .defer c:=by rw[ho];intro _ e;cases e
 have hst:∃ sd,P.underlying st=some sd:=by
  have:=(hT _ _ h0).1
  cases hsd:si.d<;>rw[hsd] at this<;>first|exact⟨_,this⟩|(obtain⟨⟨fl,hu,_⟩,_⟩:=this;exact⟨_,hu⟩)|(obtain⟨m,hu⟩:=this;exact⟨_,hu⟩)|(obtain⟨p,q,r,hu⟩:=this;exact⟨_,hu⟩)
 obtain⟨sd,hsd⟩:=hst
 have hti:=(hT _ _ h1).1
 split at h3
 ·rename_i j i' n he
  rw[he] at hti
  have hu:P.underlying dt=some (.int j):=hti
  simp only[aG] at hv
  refine wp_pure hi hk hd (fF c j n) h3 ?_
  simp[execOp,ho,convert,run_underlying hsd,run_underlying hu,hv.1,Conv.intToInt]
 ·rename_i s he
  rw[he] at hti
  have hu:P.underlying dt=some .string:=hti
  have hv':=hv
  simp only[aG] at hv
  refine wp_pure hi hk hd hv' h3 ?_
  simp[execOp,ho,convert,run_underlying hsd,run_underlying hu,hv.1]
 ·rename_i e id g off len he
  rw[he] at hti
  have hu:P.underlying dt=some (.slice e):=hti
  obtain⟨⟨h4,rfl,hlen⟩,⟨sz,vals⟩,hb,h5,h6⟩:=h3
  have h8:=va hT h4
  have hb':=cL hb
  have hv0:=hv
  simp only[aG,hb'] at hv
  obtain⟨hone,hv|⟨_,hv1,al,cap,hv2,hv3,hv4,hv5⟩⟩:=hv
  ·omega
  rcases hv5 with⟨hv5,_⟩|⟨b,o',cs,Ty,fr,hv5,rfl,hv6,hv7⟩
  ·omega
  rcases hi.heap.eS id _ hb' with⟨h9,_⟩|⟨b2,o2,cs2,Ty2,fr2,vs,h9,h10,h11,h12,h13,h14⟩
  ·rw[hv5] at h9;cases h9
  rw[hv5] at h9;cases h9
  rw[hv6] at h10;cases h10
  obtain⟨fr',q1,q2,q3,q4,q5,q6,q7⟩:=yP hv6 h11
  obtain⟨t1,t2⟩:=Cx.tg hi.heap (w':=c.w.freeze ⟨b,cs.size,none⟩ 1) hb' rfl (B':= .cells g sz vals) (c.θ id)
   ⟨g,vals,rfl,Nat.le_refl _,fun _=>⟨rfl,rfl⟩,fun b' o' h'=> .inr ⟨o',h'⟩⟩ (fun k' hk' hno=>q3 k' (fun e=>hno o' (by rw[hv5,e]))) (by rw[q4];exact Nat.le_refl _) q5 q6 q7
   (fun b' cs' T' fr0 hq=>by
    by_cases e:b'=b
    ·subst e
     rw[hv6] at hq;cases hq
     exact⟨cs,fr',q2,rfl⟩
    ·exact⟨cs',fr0,by rw[q3 b' e];exact hq,rfl⟩)
   (fun hg=> .inr ⟨b,o',cs,Ty,fr',vs,by simp[hv5],q2,q1,h12.grow hg,h13,fun j v hj=>by
    have:=h14 j v hj
    rw[iW hv6] at this
    rw[iW q2];exact this⟩)
  have e1:(c.H.set id (.cells g sz vals))=c.H:=dV hb'
  have e2:(fun i=>if i=id then c.θ id else c.θ i)=c.θ:=by
   funext i;split
   ·rename_i e;rw[e]
   ·rfl
  rw[e1,e2] at t1 t2
  have hsh:c.w.shape? b=some (Ty,cs.size):=by unfold World.shape?;rw[hv6]
  refine eU (u:=a.eval x) hd ?_ (hk _ { θ:=c.θ,H:=c.H,w:=c.w.freeze ⟨b,cs.size,none⟩ 1} _ h6 t2 (hv0.grow t1) t1)
  simp[execOp,ho,hv2,convert,run_underlying hu,run_underlying h8,markStringish,hsh]
 ·rename_i e s he
  rw[he] at hti
  have hu:P.underlying dt=some (.slice e):=hti
  obtain⟨h4,h5⟩:=h3
  have h8:=va hT h4
  simp only[aG] at hv
  have hsz:(ByteArray.mk ⟨s⟩).size=s.length:=rfl
  have hrun:=Lib.run_convert_string_bytes (P:=P) c.w st dt e ⟨⟨s⟩⟩ hsd hu h8
  rw[o6] at hrun
  obtain⟨vs,q1,q2,q3⟩:=tf c s
  have hle:=grownCap_ge c.w s.length 0 e
  have hcl:(Lib.bytesCells c.w e ⟨⟨s⟩⟩).size=grownCap c.w s.length 0 e:=by
   simp only[Lib.bytesCells,Array.size_append,Array.size_map,Array.size_replicate,hsz]
   show s.length+_=_
   omega
  obtain⟨g1,g2⟩:=gY hi.heap (sz:=1) q1 q2 (Lib.bytesCells c.w e ⟨⟨s⟩⟩) (List.replicate (grownCap c.w s.length 0 e - s.length) (.int .u8 0)) (by
   rw[q3];simp[Lib.bytesCells,hsz]) e ((Lib.bytesCells c.w e ⟨⟨s⟩⟩).size,(Lib.bytesCells c.w e ⟨⟨s⟩⟩).size+1) (.inr (Nat.le_refl _)) (w0:=c.w.drew) rfl rfl rfl rfl
  have hln:(dW s).length=s.length:=by simp[dW]
  refine eU (u:= .slice (some ⟨c.w.heap.size,0,none⟩) s.length (grownCap c.w s.length 0 e)) hd (by simp only[execOp,ho,hv.1];rw[show(⟨⟨s⟩⟩:ByteArray).size=s.length from rfl] at hrun;simp[hrun]) (hk _ _ _ h5 g2 ?_ g1)
  have:=gj c 1 (dW s) (some (c.w.heap.size,0)) (c.w.drew.alloc (.cells (Lib.bytesCells c.w e ⟨⟨s⟩⟩) e ((Lib.bytesCells c.w e ⟨⟨s⟩⟩).size,(Lib.bytesCells c.w e ⟨⟨s⟩⟩).size+1))) (a:=some ⟨c.w.heap.size,0,none⟩) (cap:=grownCap c.w s.length 0 e) (by omega) (grownCap_le_maxLen c.w s.length 0 e hv.2) (.inr ⟨c.w.heap.size,_,e,_,rfl,rfl,heap_alloc_new c.w.drew _,by rw[hcl,Nat.mul_one]⟩)
  rwa[hln] at this
 ·rename_i he hne
  rw[he] at hti
  have hu:P.underlying dt=some .string:=hti
  obtain⟨⟨h4,h5⟩,xs,h6,s,h7,h8⟩:=h3
  obtain⟨e,he',h9⟩:=zi hT h0 h4
  obtain⟨al,cap,vs,r1,r2,r3,r4,r5,r6⟩:=zf hi.heap hv h6 h5
  obtain⟨ns,n1,n2,n3,n4⟩:=sO c h7 r4
  have hlen:ns.length=xs.length:=n4
  have hs:s=ns.map fun n=>UInt8.ofNat n.toNat:=n2
  refine wp_pure (u:= .string ⟨⟨s⟩⟩) hi hk hd (by simp only[aG];exact⟨trivial,by rw[hs,List.length_map];omega⟩) h8 ?_
  simp only[execOp,ho]
  rw[r1]
  have key:(convert st dt (.slice al xs.length cap)).run P c.w= .ok (.string ⟨⟨s⟩⟩) c.w:=by
   rcases r6 with rfl|⟨b,off,rfl,r7⟩
   ·have:ns=[]:=List.length_eq_zero_iff.1 hlen
    subst this
    rw[hs]
    rw[run_convert_bytes_string c.w st dt e _ _ cap he' h9 hu]
    cases al with
    |none=>simp[Conv.bytesToString,ByteArray.empty,ByteArray.emptyWithCapacity]<;>rfl
    |some al=>simp[Conv.bytesToString,loadCells,ByteArray.empty,ByteArray.emptyWithCapacity]<;>rfl
   ·rw[run_convert_bytes_arg (P:=P) c.w st e he' h9 b off xs.length cap ns hlen (fun i hil=>?_) dt hu]
    ·rw[hs];rfl
    ·have hil':i<ns.length:=by omega
     have:=r7 i (.int .u8 (ns[i])) (by rw[n3,n1];simp[hil'])
     rw[this];simp[List.getD,hil']
  simp[key]
 ·exact h3.elim
end
end
section
section
variable {P:Program} {G:Gl} {T:aE} {own:List Nat} {nt B:Nat} {c:Cx} {env:List (Nat×SV)} {a:Act} {ρ:Option Nat}
variable {o:Oper} {next:Act→World→Prop} {Q:Exit→Act→World→Prop} {k:SV→List az→Prop}
def nq:Option IntKind→TypeDesc
 |some k=> .int k
 |none=> .string
theorem tS {kd:Option IntKind} {x:SV} {v:Value} (h:eX kd x=true) (hr:aG c x v):MapKept.IsKey (nq kd) v∧v.oneCell'=true:=by
 cases kd with
 |some k=>cases x with
  |int i n=>simp only[eX,decide_eq_true_eq] at h;subst h;simp only[aG] at hr;rw[hr.1];exact⟨rfl,rfl⟩
  |_=>cases h
 |none=>cases x with
  |str s=>simp only[aG] at hr;rw[hr.1];exact⟨trivial,rfl⟩
  |_=>cases h
theorem A9 {kd:Option IntKind} {x y:SV} {u v:Value} (hx:eX kd x=true) (hy:eX kd y=true) (hu:aG c x u) (hv:aG c y v):Instr.sameNow (nq kd) u v=some (SV.fD x y)∧(SV.fD x y=true→u=v):=by
 cases kd with
 |some k=>cases x with
  |int i n=>cases y with
   |int j m=>
    simp only[eX,decide_eq_true_eq] at hx hy
    subst hx;subst hy
    simp only[aG] at hu hv
    rw[hu.1,hv.1]
    exact⟨by simp[nq,Instr.sameNow,SV.fD],fun h=>by simp only[SV.fD,beq_iff_eq] at h;rw[h]⟩
   |_=>cases hy
  |_=>cases hx
 |none=>cases x with
  |str s=>cases y with
   |str r=>
    simp only[aG] at hu hv
    rw[hu.1,hv.1]
    refine⟨?_,fun h=>by simp only[SV.fD,beq_iff_eq] at h;rw[h]⟩
    simp only[nq,Instr.sameNow,SV.fD,Option.some.injEq]
    by_cases e:s=r
    ·subst e;rw[(MapKept.bytes_beq _ _).2 rfl];simp
    ·have h1:((ByteArray.mk ⟨s⟩:ByteArray)==ByteArray.mk ⟨r⟩)=false:=by
      cases hb:((ByteArray.mk ⟨s⟩:ByteArray)==ByteArray.mk ⟨r⟩) with
      |false=>rfl
      |true=>exact absurd ((MapKept.bytes_beq _ _).1 hb) (fun h=>e (by cases h;rfl))
     rw[h1];simp[e]
   |_=>cases hy
  |_=>cases hx
theorem uZ {kd:Option IntKind} {kx y:SV} {kv uy:Value} (hkx:eX kd kx=true) (hkv:aG c kx kv) (hy:aG c y uy):∀ {es:List (SV×SV)} {ents:List MapEntry},cC c es ents→(∀ p∈es,eX kd p.1=true)→∀ j:Nat,
 (Instr.findNow (nq kd) kv ents j=some none∧cM es kx=none∧dw es kx y=es++[(kx,y)])∨
 (∃ n e x,Instr.findNow (nq kd) kv ents j=some (some (j+n,e.val))∧ents[n]? =some e∧e.key=kv∧cM es kx=some x∧aG c x e.val∧cC c (dw es kx y) (ents.set n { e with key:=kv,val:=uy}))
 |[],ents,h,_,j=>by simp only[cC] at h;subst h;exact .inl ⟨rfl,rfl,rfl⟩
 |(q,x)::es,ents,h,hk,j=>by
  simp only[cC] at h
  obtain⟨e,es',h1,h2,h3,rfl⟩:=h
  have hq:=hk _ (List.mem_cons_self ..)
  obtain⟨k1,k2⟩:=A9 hkx hq hkv h1
  cases hb:SV.fD kx q with
  |true=>
   refine .inr ⟨0,e,x,by simp[Instr.findNow,k1,hb],rfl,(k2 hb).symm,by simp[cM,hb],h2,?_⟩
   simp only[dw,hb,if_true,List.set_cons_zero,cC]
   exact⟨_,es',hkv,hy,h3,rfl⟩
  |false=>
   rcases uZ hkx hkv hy h3 (fun p hp=>hk p (List.mem_cons_of_mem _ hp)) (j+1) with⟨a1,a2,a3⟩|⟨n,e',x',a1,a2,a3,a4,a5,a6⟩
   ·exact .inl ⟨by simp[Instr.findNow,k1,hb,a1],by simp[cM,hb,a2],by simp[dw,hb,a3]⟩
   ·refine .inr ⟨n+1,e',x',by simp[Instr.findNow,k1,hb,a1];omega,by simpa using a2,a3,by simp[cM,hb,a4],a5,?_⟩
    simp only[dw,hb,Bool.false_eq_true,if_false,List.set_cons_succ,cC]
    exact⟨e,_,h1,h2,a6,rfl⟩
theorem mU {t:Nat} {p:Option IntKind×TI} (hT:aq P T) (h:dT T t=some p):∃ kt et,P.underlying t=some (.map kt et)∧aN P et p.2∧P.underlying kt=some (nq p.1):=by
 obtain⟨kt,et,h1,h2,h3⟩:=tc hT h
 refine⟨kt,et,h1,h2,?_⟩
 obtain⟨p1,p2⟩:=p
 cases p1<;>exact h3
theorem cC.zip {c:Cx}:∀ {ks vs:List SV} {l:List MapEntry},aD c ks (l.map (·.key))→aD c vs (l.map (·.val))→cC c (ks.zip vs) l
 |[],vs,l,h,_=>by
  have h1:=h.length
  have:l=[]:=by cases l with
   |nil=>rfl
   |cons e l=>simp at h1
  subst this
  simp[cC]
 |x::ks,[],l,h,h'=>by
  have h1:=h.length
  have h2:=h'.length
  simp only[List.length_map,List.length_cons,List.length_nil] at h1 h2
  omega
 |x::ks,y::vs,[],h,_=>by
  have h1:=h.length
  simp at h1
 |x::ks,y::vs,e::l,h,h'=>by
  obtain⟨u,us,a1,a2,a3⟩:=aD.bC.1 h
  obtain⟨u',us',b1,b2,b3⟩:=aD.bC.1 h'
  simp only[List.map_cons,List.cons.injEq] at a3 b3
  obtain⟨rfl,rfl⟩:=a3
  obtain⟨rfl,rfl⟩:=b3
  simp only[List.zip_cons_cons,cC]
  exact⟨e,l,a1,b1,cC.zip a2 b2,rfl⟩
theorem rT (hc:aT c) {kd:Option IntKind} {m:SV} {v:Value} (hm:aG c m v) {es:List (SV×SV)} (h:mapOf c.H kd m=some es):
 (v= .map none∧es=[])∨(∃ id b ents clk,m= .map id∧c.H[id]? =some (.map kd es)∧c.θ id=some (b,0)∧v= .map (some b)∧c.w.heap[b]? =some (.map ents clk)∧cC c es ents.toList∧(∀ p∈es,eX kd p.1=true)∧qT ents.toList clk)∨
 ((∀ id,m≠ .map id)∧∃ b ents clk,v= .map (some b)∧c.w.heap[b]? =some (.map ents clk)∧cC c es ents.toList∧(∀ p∈es,eX kd p.1=true)):=by
 cases m with
 |bM=>simp only[mapOf,Option.some.injEq] at h;simp only[aG] at hm;exact .inl ⟨hm,h.symm⟩
 |map id=>
  simp only[mapOf] at h
  split at h
  ·rename_i kd' es' hb
   split at h
   ·rename_i e;subst e;cases h
    simp only[aG,hb] at hm
    obtain⟨_,b,h1,h2⟩:=hm
    obtain⟨b',ents,clk,h3,h4,h5,h6,h7⟩:=hc.eS id _ hb
    rw[h1] at h3;cases h3
    exact .inr (.inl ⟨id,b,ents,clk,rfl,hb,h1,h2,h4,h5,h6,h7⟩)
   ·cases h
  ·cases h
 |fI b clk born kd' ks vs=>
  simp only[mapOf] at h
  split at h
  ·rename_i e;subst e;cases h
   simp only[aG] at hm
   obtain⟨h0,h1,ents,h2,h3,h4,h5,h6,h7⟩:=hm
   exact .inr (.inr ⟨(fun id e=>by cases e),b,ents,clk,h0,h2,cC.zip h5 h6,(fun p hp=>h7 p.1 (List.of_mem_zip (a:=p.1) (b:=p.2) hp).1)⟩)
  ·cases h
 |_=>simp[mapOf] at h
theorem BM {t:Nat} {x y:Operand} {ok:Bool} (hT:aq P T) (hi:Inv G nt B c env a) (ho:o.op= .lookup t x y ok) (h:c7 P G T own env c.H o.dst o.type (.lookup t x y ok) k)
 (hk:∀ x c' u,k x c'.H→aT c'→aG c' x u→Grow c c'→next (a.put o.dst u) c'.w):o.wpIn (FR ρ) 0 P a c.w next Q:=by
 obtain⟨p,h1,m,h2,es,h3,kx,h4,h5,h6⟩:=h
 obtain⟨kt,et,u1,u2,u3⟩:=mU hT h1
 have hkey:=bZ hi h4
 obtain⟨k1,_⟩:=tS h5 hkey
 obtain⟨_,info,z,i1,i2,i3,i4,i5,i6⟩:=u2
 have hz:=(i5 c).1
 have hzero:∀ w,(zeroValue et).run P w= .ok z w:=fun w=>by simp[zeroValue,typeInfo,i1,i4]
 have hd:∀ c,o.op≠ .defer c:=by rw[ho];intro _ e;cases e
 have fin:∀ (x:SV) (u:Value) (b:Bool),aG c x u→(cM es kx).getD p.2.zero=x→(cM es kx).isSome=b→
  (execOp a.eval o).run P c.w= .ok (.value (if ok then .tuple #[u,.bool b] else u)) c.w→o.wpIn (FR ρ) 0 P a c.w next Q:=fun x u b e1 e2 e3 e4=>by
  rw[e2,e3] at h6
  refine wp_pure hi hk hd ?_ h6 e4
  cases ok with
  |true=>simp only[if_true,aG];exact⟨[u,.bool b],aD.bT e1 (aD.bT (bE c b) aD.cw),rfl⟩
  |false=>exact e1
 have hfnd:∀ b ents clk,a.eval x= .map (some b)→c.w.heap[b]? =some (.map ents clk)→cC c es ents.toList→(∀ q∈es,eX p.1 q.1=true)→o.wpIn (FR ρ) 0 P a c.w next Q:=fun b ents clk e3 e4 e5 e6=>by
  rcases uZ h5 hkey aG.undef e5 e6 0 with⟨a1,a2,_⟩|⟨n,e,x',a1,a2,a3,a4,a5,_⟩
  ·refine fin p.2.zero z false hz (by rw[a2];rfl) (by rw[a2];rfl) ?_
   cases ok<;>simp[execOp,ho,Instr.lookup,run_underlying u1,e3,MapKept.run_getObj_map e4,MapKept.run_checkKey u3 k1,MapKept.run_findKey u3 a1,hzero]
  ·refine fin x' e.val true a5 (by rw[a4];rfl) (by rw[a4];rfl) ?_
   cases ok<;>simp[execOp,ho,Instr.lookup,run_underlying u1,e3,MapKept.run_getObj_map e4,MapKept.run_checkKey u3 k1,MapKept.run_findKey u3 a1,hzero]
 rcases rT hi.heap (bZ hi h2) h3 with⟨e1,rfl⟩|⟨id,b,ents,clk,rfl,e1,e2,e3,e4,e5,e6,e7⟩|⟨_,b,ents,clk,e3,e4,e5,e6⟩
 ·refine fin p.2.zero z false hz rfl rfl ?_
  have hf:(Instr.findKey kt (a.eval y) []).run P c.w= .ok none c.w:=MapKept.run_findKey u3 rfl
  cases ok<;>simp[execOp,ho,Instr.lookup,run_underlying u1,e1,MapKept.run_checkKey u3 k1,hf,hzero]
 ·exact hfnd b ents clk e3 e4 e5 e6
 ·exact hfnd b ents clk e3 e4 e5 e6
theorem cC.snoc {x y:SV} {e:MapEntry} (h1:aG c x e.key) (h2:aG c y e.val):∀ {es:List (SV×SV)} {ents:List MapEntry},cC c es ents→cC c (es++[(x,y)]) (ents++[e])
 |[],ents,h=>by simp only[cC] at h;subst h;simp only[List.nil_append,cC];exact⟨e,[],h1,h2,rfl,rfl⟩
 |(q,z)::es,ents,h=>by
  simp only[cC] at h
  obtain⟨e',es',a1,a2,a3,rfl⟩:=h
  simp only[List.cons_append,cC]
  exact⟨e',_,a1,a2,cC.snoc h1 h2 a3,rfl⟩
theorem sF {kd:Option IntKind} {kx y:SV} (hk:eX kd kx=true):∀ {es:List (SV×SV)},(∀ p∈es,eX kd p.1=true)→∀ p∈dw es kx y,eX kd p.1=true
 |[],_,p,hp=>by simp only[dw,List.mem_singleton] at hp;subst hp;exact hk
 |(q,z)::es,h,p,hp=>by
  simp only[dw] at hp
  split at hp
  ·rcases List.mem_cons.1 hp with rfl|hp
   ·exact hk
   ·exact h p (List.mem_cons_of_mem _ hp)
  ·rcases List.mem_cons.1 hp with rfl|hp
   ·exact h _ (List.mem_cons_self ..)
   ·exact sF hk (fun p hp=>h p (List.mem_cons_of_mem _ hp)) p hp
theorem oX {t:Nat} {x y z:Operand} (hT:aq P T) (hi:Inv G nt B c env a) (ho:o.op= .mapUpdate t x y z∨o.op= .insert t x y z) (h:c7 P G T own env c.H o.dst o.type (.mapUpdate t x y z) k)
 (hk:∀ x c' u,k x c'.H→aT c'→aG c' x u→Grow c c'→next (a.put o.dst u) c'.w):o.wpIn (FR ρ) 0 P a c.w next Q:=by
 obtain⟨p,h1,m,h2,h3⟩:=h
 obtain⟨kt,et,u1,u2,u3⟩:=mU hT h1
 have hd:∀ c,o.op≠ .defer c:=by rcases ho with ho|ho<;>(rw[ho];intro _ e;cases e)
 cases m with
 |map id0=>
  obtain⟨es,h3,kx,h4,v,h5,h6,h7⟩:=h3
  have hkey:=bZ hi h4
  have hval:=bZ hi h5
  obtain⟨k1,_⟩:=tS h6 hkey
  rcases rT hi.heap (bZ hi h2) h3 with⟨e1,rfl⟩|⟨id,b,ents,clk,e0,e1,e2,e3,e4,e5,e6,e7⟩|⟨e0,_⟩
  ·have:=bZ hi h2
   simp only[mapOf] at h3
   split at h3
   ·rename_i kd' es' hb
    simp only[aG,hb] at this
    obtain⟨_,b,_,hb2⟩:=this
    rw[e1] at hb2;cases hb2
   ·cases h3
  ·cases e0
   have hb:b<c.w.heap.size:=(Array.getElem?_eq_some_iff.1 e4).1
   have key:∀ ents' clk',cC c (dw es kx v) ents'.toList→qT ents'.toList clk'→(execOp a.eval o).run P c.w= .ok .skip { c.w with heap:=c.w.heap.setIfInBounds b (.map ents' clk')}→o.wpIn (FR ρ) 0 P a c.w next Q:=fun ents' clk' q1 q2 q3=>by
    have hnew:(c.w.heap.setIfInBounds b (.map ents' clk'))[b]? =some (.map ents' clk'):=by simp[hb]
    obtain⟨g1,g2⟩:=Cx.tg hi.heap (w':={ c.w with heap:=c.w.heap.setIfInBounds b (.map ents' clk')}) e1 rfl (B':= .map p.1 (dw es kx v)) (c.θ id0)
     ⟨⟨_,rfl⟩,rfl⟩ (fun k' hk' hno=>by
      have:k'≠b:=fun e=>hno 0 (by rw[e2,e])
      show(c.w.heap.setIfInBounds b _)[k']? =_
      simp[Ne.symm this]) (by simp) rfl rfl rfl (fun b' cs Ty fr hb'=>by
      refine⟨cs,fr,?_,rfl⟩
      have:b'≠b:=fun e=>by rw[e,e4] at hb';cases hb'
      show(c.w.heap.setIfInBounds b _)[b']? =_
      rw[← hb'];simp[Ne.symm this])
     (fun hg=>⟨b,ents',clk',by simp[e2],hnew,cC.grow hg _ _ q1,sF h6 e6,q2⟩)
    exact Eu hd q3 (hk .undef (c.Gq id0 (.map p.1 (dw es kx v)) (c.θ id0) _) undef h7 g2 aG.undef g1)
   rcases uZ h6 hkey hval e5 e6 0 with⟨a1,a2,a3⟩|⟨n,e,x',a1,a2,a3,a4,a5,a6⟩
   ·refine key (ents.push { key:=a.eval y,val:=a.eval z,born:=clk}) (clk+1) ?_ ?_ ?_
    ·rw[a3,Array.toList_push]
     exact cC.snoc hkey hval e5
    ·rw[Array.toList_push]
     refine⟨fun q hq=>?_,?_⟩
     ·rcases List.mem_append.1 hq with hq|hq
      ·have:=e7.1 q hq;omega
      ·simp at hq;subst hq;simp
     ·rw[List.map_append,List.nodup_append]
      refine⟨⟨e7.2.1,by simp,fun q hq r hr=>?_⟩,by rw[List.length_append,← e7.2.2.1];rfl,by rw[e7.2.2.2,List.length_append,List.length_singleton,List.range_succ,← e7.2.2.1];rfl⟩
      simp only[List.map_cons,List.map_nil,List.mem_singleton] at hr
      obtain⟨e',he',rfl⟩:=List.mem_map.1 hq
      have:=e7.1 e' he';omega
    ·have hck:=MapKept.run_checkKey (w:=c.w) u3 k1 false 9999
     have hfk:=MapKept.run_findKey (w:=c.w) u3 a1
     have hgo:=MapKept.run_getObj_map (P:=P) e4
     have hso:=MapKept.run_setObj_map (P:=P) (.map (ents.push { key:=a.eval y,val:=a.eval z,born:=clk}) (clk+1)) e4
     rcases ho with ho|ho<;>simp only[execOp,ho,Instr.mapUpdate,e3,Sem.run_bind,run_underlying u1,Result.andThen_ok,hgo,hck,hfk,hso,Sem.run_pure]
   ·have hel:(ents.modify n fun e'=>{ e' with key:=a.eval y,val:=a.eval z}).toList=ents.toList.set n { e with key:=a.eval y,val:=a.eval z}:=by
     apply List.ext_getElem?
     intro j
     rw[Array.getElem?_toList,Array.getElem?_modify,List.getElem?_set]
     by_cases ej:n=j
     ·subst ej
      have:n<ents.toList.length:=(List.getElem?_eq_some_iff.1 a2).1
      rw[if_pos rfl,if_pos rfl,if_pos this,← Array.getElem?_toList,a2];rfl
     ·rw[if_neg ej,if_neg ej,Array.getElem?_toList]
    refine key (ents.modify n fun e'=>{ e' with key:=a.eval y,val:=a.eval z}) clk ?_ ?_ ?_
    ·rw[hel];exact a6
    ·rw[hel]
     have hborn:(ents.toList.set n { e with key:=a.eval y,val:=a.eval z}).map (·.born)=ents.toList.map (·.born):=by
      rw[List.map_set]
      apply List.ext_getElem?
      intro j
      rw[List.getElem?_set]
      by_cases ej:n=j
      ·subst ej
       have:n<(ents.toList.map (·.born)).length:=by rw[List.length_map];exact(List.getElem?_eq_some_iff.1 a2).1
       rw[if_pos rfl,if_pos this,List.getElem?_map,a2];rfl
      ·rw[if_neg ej]
     refine⟨fun q hq=>?_,by rw[hborn,List.length_set];exact e7.2⟩
     rcases List.mem_or_eq_of_mem_set hq with hq|rfl
     ·exact e7.1 q hq
     ·exact e7.1 e (List.mem_of_getElem? a2)
    ·have hn:n<ents.size:=by have:=(List.getElem?_eq_some_iff.1 a2).1;simpa using this
     have hget:ents[n]? =some e:=by rw[← Array.getElem?_toList];exact a2
     simp only[Nat.zero_add] at a1
     have hstay:(Instr.keyThatStays ((ents[n]?.map (·.key)).getD (a.eval y)) (a.eval y)).run P c.w= .ok (a.eval y) c.w:=by
      rw[hget];simp only[Option.map_some,Option.getD_some,a3];exact MapKept.run_keyThatStays k1
     have hck:=MapKept.run_checkKey (w:=c.w) u3 k1 false 9999
     have hfk:=MapKept.run_findKey (w:=c.w) u3 a1
     have hgo:=MapKept.run_getObj_map (P:=P) e4
     have hso:=MapKept.run_setObj_map (P:=P) (.map (ents.modify n fun e'=>{ e' with key:=a.eval y,val:=a.eval z}) clk) e4
     rcases ho with ho|ho<;>simp only[execOp,ho,Instr.mapUpdate,e3,Sem.run_bind,run_underlying u1,Result.andThen_ok,hgo,hck,hfk,hstay,hso,Sem.run_pure]
  ·exact absurd rfl (e0 id0)
 |_=>exact h3.elim
end
end
section
section
variable {P:Program} {G:Gl} {T:aE} {own:List Nat} {nt B:Nat} {c:Cx} {env:List (Nat×SV)} {a:Act} {ρ:Option Nat}
variable {o:Oper} {next:Act→World→Prop} {Q:Exit→Act→World→Prop} {k:SV→List az→Prop}
theorem tM (off:Nat):∀ (l:List Value) (k:Nat) (cs:Array Value),off+k+l.length≤cs.size→
 ((l.zipIdx k).foldl (fun(cs:Array Value) (p:Value×Nat)=>cs.setIfInBounds (off+p.2) p.1) cs).toList=cs.toList.take (off+k)++l++cs.toList.drop (off+k+l.length)
 |[],k,cs,_=>by simp
 |x::l,k,cs,h=>by
  simp only[List.zipIdx_cons,List.foldl_cons]
  rw[tM off l (k+1) (cs.setIfInBounds (off+k) x) (by simp at h ⊢;omega)]
  simp only[Array.toList_setIfInBounds,List.length_cons]
  have hl:off+k<cs.toList.length:=by simp at h ⊢;omega
  rw[List.take_set,List.drop_set_of_lt (by omega)]
  rw[show off+(k+1)=(off+k)+1 by omega,List.take_add_one,List.getElem?_eq_getElem hl]
  simp only[Option.toList_some]
  rw[List.set_append_right _ _ (by simp;omega)]
  have:(cs.toList.take (off+k)).length=off+k:=by simp at hl ⊢;omega
  simp only[this,Nat.sub_self,List.set_cons_zero]
  rw[show off+k+1+l.length=off+k+(l.length+1) by omega]
  simp
theorem CN (off:Nat) (v cs:Array Value) (h:off+v.size≤cs.size):
 (v.zipIdx.foldl (fun(cs:Array Value) (p:Value×Nat)=>cs.setIfInBounds (off+p.2) p.1) cs).toList=cs.toList.take off++v.toList++cs.toList.drop (off+v.size):=by
 rw[← Array.foldl_toList,Array.toList_zipIdx]
 have:=tM off v.toList 0 cs (by simpa using h)
 simpa using this
theorem tL {place:Nat→Option (Nat×Nat)} {cs:Array Value} {j off sz:Nat} {v:Value} {rest:List (Nat×Value)} (hp:place j=some (off,sz)) (h1:v.cells.size=sz) (h2:off+v.cells.size≤cs.size):
 ∃ cs',Instr.fill place cs ((j,v)::rest)=Instr.fill place cs' rest∧cs'.toList=cs.toList.take off++v.cells.toList++cs.toList.drop (off+v.cells.size):=by
 refine⟨_,?_,CN off v.cells cs h2⟩
 simp only[Instr.fill,hp]
 rw[if_neg (by simp;omega)]
def placeOf (T:aE) (d:TD) (j:Nat):Option (Nat×Nat):=
 match d with
 | .struct fs _=>match fs[j]? with
  |some (off,ft)=>(T.get ft).map fun i=>(off,i.size)
  |none=>none
 | .array _ e=>(T.get e).map fun i=>(j*i.size,i.size)
 |_=>none
theorem AW {i:TI} {x:SV} (h:fits i x=true):x.leaf=true∨x.isAgg=true:=by
 unfold fits at h
 split at h
 ·simp only[Bool.and_eq_true] at h;exact .inr h.1
 ·simp only[Bool.and_eq_true] at h;exact .inl h.1
theorem zk {fs:List SV} {off:Nat} {y z:SV} (h:me (.agg fs) off y=some z):∃ gs,z= .agg gs:=by
 unfold me at h
 split at h
 ·rename_i hc;cases h
  cases y with
  |agg ys=>exact⟨ys,rfl⟩
  |_=>exact absurd hc.2.2.1 (by simp[SV.isAgg])
 ·simp only at h
  split at h
  ·split at h
   ·cases h;exact⟨_,rfl⟩
   ·cases h
  ·split at h
   ·cases h;exact⟨_,rfl⟩
   ·cases h
theorem uW (hi:Inv G nt B c env a) {d:TD} {place:Nat→Option (Nat×Nat)} (hpl:∀ j p,placeOf T d j=some p→place j=some p):∀ (parts:List (Nat×Operand)) {ps:List (Nat×SV)} {fs:List SV} {y:SV} {cs:Array Value},
 partsOf T d G env parts=some ps→aG c (.agg fs) (.agg cs)→lY (.agg fs) ps=some y→∃ cells,Instr.fill place cs (parts.map fun p=>(p.1,a.eval p.2))=some cells∧aG c y (.agg cells)
 |[],ps,fs,y,cs,h,hr,hp=>by
  simp only[partsOf,Option.some.injEq] at h;subst h
  simp only[lY,Option.some.injEq] at hp;subst hp
  exact⟨cs,rfl,hr⟩
 |(j,o)::parts,ps,fs,y,cs,h,hr,hp=>by
  simp only[partsOf] at h
  split at h
  ·rename_i off ft hoff
   split at h
   ·rename_i i hti
    split at h
    ·rename_i x hx
     split at h
     ·rename_i hf
      split at h
      ·rename_i l hl
       cases h
       simp only[lY] at hp
       split at hp
       ·rename_i z hz
        have hxr:=bZ hi hx
        obtain⟨f1,f2,_,_⟩:=hxr.dZ hf
        have hplace:placeOf T d j=some (off,i.size):=by
         unfold placeOf
         cases d with
         |struct fl=>
          simp only at hoff ⊢
          split at hoff
          ·rename_i off' ft' he;cases hoff;(first|rw[he]|skip);simp[hti]
          ·cases hoff
         |array n e=>
          simp only at hoff ⊢
          split at hoff
          ·rename_i i' he;cases hoff;rw[hti] at he;cases he;rw[hti];rfl
          ·cases hoff
         |_=>cases hoff
        obtain⟨u',g1,g2,g3,g4,g5⟩:=uu hr hxr (AW hf) hz
        obtain⟨cs',e1,e2⟩:=tL (rest:=parts.map fun p=>(p.1,a.eval p.2)) (hpl j _ hplace) f2 g4
        obtain⟨gs,rfl⟩:=zk hz
        have hu':u'= .agg cs':=by
         obtain⟨vs,_,_,rfl,q4,_⟩:=g1.eL
         have:vs=cs'.toList:=by rw[← q4,g5,e2]
         rw[this]
        rw[hu'] at g1
        obtain⟨cells,k1,k2⟩:=uW hi hpl parts hl g1 hp
        exact⟨cells,e1.trans k1,k2⟩
       ·cases hp
      ·cases h
     ·cases h
    ·cases h
   ·cases h
  ·cases h
theorem zl (hT:aq P T) {fl:List Field}:(∀ f∈fl,(T.get f.type).isSome=true)→∃ places,fl.mapM (fun f=>(P.info? f.type).map fun i=>(f.offset,i.size))=some places∧
 ∀ (j:Nat) (f:Field),fl[j]? =some f→∀ i,T.get f.type=some i→places[j]? =some (f.offset,i.size):=by
 induction fl with
 |nil=>intro _;exact⟨[],rfl,by simp⟩
 |cons f fl ih=>
  intro h
  obtain⟨pl,h1,h2⟩:=ih (fun g hg=>h g (List.mem_cons_of_mem _ hg))
  obtain⟨i,hi⟩:=Option.isSome_iff_exists.1 (h f (List.mem_cons_self ..))
  obtain⟨info,i1,i2,_⟩:=eQ (hT _ _ hi)
  refine⟨(f.offset,info.size)::pl,by simp[List.mapM_cons,i1,h1],fun j g hg i' hi'=>?_⟩
  cases j with
  |zero=>simp at hg;subst hg;rw[hi] at hi';cases hi';simp[i2]
  |succ j=>simpa using h2 j g (by simpa using hg) i' hi'
theorem wp_build {t:Nat} {parts:Array (Nat×Operand)} (hT:aq P T) (hi:Inv G nt B c env a) (ho:o.op= .build t parts) (h:c7 P G T own env c.H o.dst o.type (.build t parts) k)
 (hk:∀ x c' u,k x c'.H→aT c'→aG c' x u→Grow c c'→next (a.put o.dst u) c'.w):o.wpIn (FR ρ) 0 P a c.w next Q:=by
 obtain⟨i,h1,⟨hkn,hza⟩,ps,h2,v,h3,h4⟩:=h
 obtain⟨hd,info,z,i1,i2,i3,i4,i5,i6⟩:=hT _ _ h1
 have hz:=(i5 c).1
 have hparts:(parts.map fun p=>(p.1,a.eval p.2)).toList=parts.toList.map fun p=>(p.1,a.eval p.2):=by simp
 obtain⟨fs,hfs⟩:∃ fs,i.zero= .agg fs:=by
  cases hzz:i.zero with
  |agg fs=>exact⟨fs,rfl⟩
  |_=>rw[hzz] at hza;cases hza
 rw[hfs] at hz h3
 obtain⟨vs0,_,_,hzv,_,_⟩:=hz.eL
 have hbuilt:∃ cells,P.built t (parts.map fun p=>(p.1,a.eval p.2)).toList=some cells∧aG c v (.agg cells):=by
  rw[hparts]
  have hz':aG c (.agg fs) (.agg z.cells):=by rw[hzv] at hz ⊢;exact hz
  cases hdd:i.d with
  |struct fl0 cmp0=>
   rw[hdd] at hd hkn h2
   obtain⟨⟨fl,hu,hfl⟩,_⟩:=hd
   have hall:∀ f∈fl.toList,(T.get f.type).isSome=true:=fun f hf=>by
    simp only[ja,List.all_eq_true] at hkn
    exact hkn (f.offset,f.type) (by rw[← hfl];exact List.mem_map.2 ⟨f,hf,rfl⟩)
   obtain⟨places,p1,p2⟩:=zl hT hall
   obtain⟨cells,c1,c2⟩:=uW hi (place:=(places.toArray[·]?)) (d:= .struct fl0 cmp0) (fun j p hp=>by
    simp only[placeOf] at hp
    split at hp
    ·rename_i off ft he
     rw[← hfl,List.getElem?_map,Option.map_eq_some_iff] at he
     obtain⟨f,hf,he⟩:=he
     cases he
     simp only[Option.map_eq_some_iff] at hp
     obtain⟨i',hi',rfl⟩:=hp
     simpa using p2 j f hf i' hi'
    ·cases hp) parts.toList h2 hz' h3
   exact⟨cells,by simp only[Program.built,i1,hu,i4,p1];exact c1,c2⟩
  |array n e=>
   rw[hdd] at hd hkn h2
   have hu:P.underlying t=some (.array n e):=hd
   obtain⟨ei,hei⟩:=Option.isSome_iff_exists.1 (show(T.get e).isSome=true from hkn)
   obtain⟨einfo,e1,e2,_⟩:=eQ (hT _ _ hei)
   obtain⟨cells,c1,c2⟩:=uW hi (place:=fun j=>some (j*einfo.size,einfo.size)) (d:= .array n e) (fun j p hp=>by
    simp only[placeOf,hei,Option.map_some,Option.some.injEq] at hp
    subst hp;rw[e2]) parts.toList h2 hz' h3
   exact⟨cells,by simp only[Program.built,i1,hu,i4,e1];exact c1,c2⟩
  |_=>rw[hdd] at hkn;cases hkn
 obtain⟨cells,c1,c2⟩:=hbuilt
 have hrun:=run_build (P:=P) c.w t _ cells c1
 exact wp_pure hi hk (by rw[ho];intro _ e;cases e) c2 h4 (by simp[execOp,ho,hrun])
theorem iP (z:Value) (hz:0<z.cells.size) (n:Nat):((Array.range (n*z.cells.size)).map (z.cells[· % z.cells.size]!)).toList=cellsOf (List.replicate n z):=by
 have hu:∀ u∈List.replicate n z,u.cells.size=z.cells.size:=fun u hu=>by rw[List.eq_of_mem_replicate hu]
 apply List.ext_getElem?
 intro j
 by_cases hj:j<n*z.cells.size
 ·have hdiv:j / z.cells.size<n:=(Nat.div_lt_iff_lt_mul hz).2 hj
  have hmod:j % z.cells.size<z.cells.size:=Nat.mod_lt _ hz
  have:=lu hu (i:=j / z.cells.size) (u:=z) (by simp[hdiv]) (j:=j % z.cells.size) (x:=z.cells[j % z.cells.size]) (by simp[hmod])
  rw[show j / z.cells.size*z.cells.size+j % z.cells.size=j by rw[Nat.mul_comm];exact Nat.div_add_mod j _] at this
  rw[this]
  simp[hj,hmod]
 ·rw[List.getElem?_eq_none (by simp;omega),List.getElem?_eq_none (by rw[br hu,List.length_replicate];omega)]
theorem Bb {α:Type} (A M B V:List α) {n m:Nat} (h1:A.length=n) (h2:M.length=m):(A++M++B).take n++V++(A++M++B).drop (n+m)=A++(V++B):=by
 subst h1 h2
 rw[← List.length_append,List.drop_left,List.append_assoc A M B,List.take_left,List.append_assoc]
theorem rv (hi:Inv G nt B c env a) {i:TI}:∀ (parts:List (Nat×Operand)) {xs ys:List SV} {vs:List Value} {cs:Array Value},dr i G env xs parts=some ys→aD c xs vs→(∀ u∈vs,u.cells.size=i.size∧cI u)→cs.toList=cellsOf vs→
 ∃ cells us,Instr.fill (fun j=>some (j*i.size,i.size)) cs (parts.map fun p=>(p.1,a.eval p.2))=some cells∧aD c ys us∧(∀ u∈us,u.cells.size=i.size∧cI u)∧cells.toList=cellsOf us
 |[],xs,ys,vs,cs,h,hr,hu,hc=>by
  simp only[dr,Option.some.injEq] at h;subst h
  exact⟨cs,vs,rfl,hr,hu,hc⟩
 |(j,o)::parts,xs,ys,vs,cs,h,hr,hu,hc=>by
  simp only[dr] at h
  split at h
  ·rename_i x hx
   split at h
   ·rename_i hf
    have hxr:=bZ hi hx
    obtain⟨f1,f2,_,_⟩:=hxr.dZ hf.1
    have hvl:=hr.length
    obtain⟨e1,e2,e3⟩:=uq (l:=vs) (j:=j) (List.getElem?_eq_getElem (by omega)) (a.eval o)
    have hA:(cellsOf (vs.take j)).length=j*i.size:=by rw[br (fun u h=>(hu u (List.mem_of_mem_take h)).1),e3]
    have hm:(vs[j]'(by omega)).cells.toList.length=i.size:=by rw[Array.length_toList];exact(hu _ (List.getElem_mem _)).1
    have hcs:cs.toList=cellsOf (vs.take j)++(vs[j]'(by omega)).cells.toList++cellsOf (vs.drop (j+1)):=by
     rw[hc];conv=>lhs;rw[e1,cf,eF]
     simp[List.append_assoc]
    have hsz:cs.size=cs.toList.length:=by simp
    obtain⟨cs',g1,g2⟩:=tL (place:=fun j=>some (j*i.size,i.size)) (rest:=parts.map fun p=>(p.1,a.eval p.2)) (j:=j) (cs:=cs) rfl f2 (by
     rw[hsz,hcs,List.length_append,List.length_append,hA,hm];omega)
    have g2':cs'.toList=cellsOf (vs.set j (a.eval o)):=by
     rw[g2,e2,cf,eF,hcs,f2]
     exact Bb _ _ _ _ hA hm
    obtain⟨cells,us,k1,k2,k3,k4⟩:=rv hi parts h (hr.set j hxr) (fun u hu'=>by
     rcases List.mem_or_eq_of_mem_set hu' with hu'|rfl
     ·exact hu u hu'
     ·exact⟨f2,f1⟩) g2'
    exact⟨cells,us,g1.trans k1,k2,k3,k4⟩
   ·cases h
  ·cases h
theorem aD.replicate {x:SV} {v:Value} (h:aG c x v):∀ n,aD c (List.replicate n x) (List.replicate n v)
 |0=>aD.cw
 |n+1=>aD.bT h (aD.replicate h n)
theorem lD {i:TI}:∀ (parts:List (Nat×Operand)) {xs ys:List SV},dr i G env xs parts=some ys→ys.length=xs.length
 |[],xs,ys,h=>by simp only[dr,Option.some.injEq] at h;subst h;rfl
 |(j,o)::parts,xs,ys,h=>by
  simp only[dr] at h
  split at h
  ·split at h
   ·rw[lD parts h];simp
   ·cases h
  ·cases h
theorem wp_buildSlice {t len:Nat} {parts:Array (Nat×Operand)} (hT:aq P T) (hi:Inv G nt B c env a) (ho:o.op= .buildSlice t len parts) (h:c7 P G T own env c.H o.dst o.type (.buildSlice t len parts) k)
 (hk:∀ x c' u,k x c'.H→aT c'→aG c' x u→Grow c c'→next (a.put o.dst u) c'.w):o.wpIn (FR ρ) 0 P a c.w next Q:=by
 obtain⟨e,h1,⟨⟨hsm,hs0⟩,hzf⟩,xs,h2,h3⟩:=h
 obtain⟨ht,hei⟩:=dS hT h1
 obtain⟨_,info,z,i1,i2,i3,i4,i5,i6⟩:=hei
 obtain⟨z1,z2⟩:=i5 c
 obtain⟨_,zsz,zag,znag⟩:=z1.dZ hzf
 have hd:∀ c,o.op≠ .defer c:=by rw[ho];intro _ e;cases e
 have hl:xs.length=len:=by rw[lD _ h2,List.length_replicate]
 have hpar:(parts.map fun p=>(p.1,a.eval p.2)).toList=parts.toList.map fun p=>(p.1,a.eval p.2):=by simp
 have hrun:∃ cells us,(execOp a.eval o).run P c.w= .ok (.value (.slice (some ⟨c.w.heap.size,0,none⟩) len len)) (c.w.alloc (.cells cells e.1))∧aD c xs us∧(∀ u∈us,u.cells.size=e.2.size∧cI u)∧cells.toList=cellsOf us:=by
  by_cases h0:len*e.2.size=0
  ·by_cases hl0:len=0
   ·subst hl0
    have hx0:xs=[]:=List.eq_nil_of_length_eq_zero hl
    subst hx0
    have hp0:parts.toList=[]:=by
     cases hp:parts.toList with
     |nil=>rfl
     |cons p r=>
      obtain⟨j,q⟩:=p
      rw[hp] at h2
      simp[dr] at h2
      split at h2<;>simp_all
    have hp0':parts= #[]:=by rw[← Array.toList_inj];simpa using hp0
    refine⟨#[],[],?_,aD.cw,by simp,rfl⟩
    simp[execOp,ho,Instr.buildSlice,run_underlying ht,sizeOf,typeInfo,i1,hp0',Instr.fill,newRow]
    exact congrArg (fun q=>c.w.alloc (Obj.cells q e.1)) (Array.ext' (by simp))
   ·have:e.2.size=0:=by rcases Nat.mul_eq_zero.1 h0 with h|h<;>omega
    omega
  ·have hpos:0<z.cells.size:=by rw[i6];exact Nat.pos_of_ne_zero fun hh=>h0 (by rw[hh,Nat.mul_zero])
   have hzl:=iP z hpos len
   rw[i6] at hzl
   obtain⟨cells,us,k1,k2,k3,k4⟩:=rv hi parts.toList (vs:=List.replicate len z) (cs:=(Array.range (len*e.2.size)).map (z.cells[· % z.cells.size]!)) h2 (aD.replicate z1 len) (fun u hu=>by rw[List.eq_of_mem_replicate hu];exact⟨i6,z2⟩) (by rw[← hzl,i6])
   refine⟨cells,us,?_,k2,k3,k4⟩
   have:=run_buildSlice (P:=P) c.w t e.1 len (parts.map fun p=>(p.1,a.eval p.2)) cells info z ht i1 i4 (by rw[i2];omega) (by rw[i2];exact h0) (by rw[i2,hpar];exact k1)
   simp[execOp,ho,this]
 obtain⟨cells,us,r1,r2,r3,r4⟩:=hrun
 have hnew:(c.w.alloc (.cells cells e.1)).heap[c.w.heap.size]? =some (.cells cells e.1 (0,0)):=heap_alloc_new c.w _
 have hcs:len*e.2.size=cells.size:=by
  have:cells.toList.length=us.length*e.2.size:=by rw[r4,br (fun u h=>(r3 u h).1)]
  rw[r2.length,hl] at this
  simpa using this.symm
 have hlm:len≤maxLen:=by
  have:len*1≤len*e.2.size:=Nat.mul_le_mul_left _ hs0
  unfold maxLen;omega
 cases hin:(len==0||pq o.dst own) with
 |true=>
  replace h3:=h3.1 hin
  obtain⟨g1,g2⟩:=gY hi.heap r2 r3 cells [] (by simpa using r4) e.1 (0,0) (.inl rfl) (w0:=c.w) rfl rfl rfl rfl
  refine eU hd r1 (hk _ _ _ h3 g2 ?_ g1)
  have:=gj c e.2.size xs (some (c.w.heap.size,0)) (c.w.alloc (.cells cells e.1)) (a:=some ⟨c.w.heap.size,0,none⟩) (cap:=len) (by omega) hlm (.inr ⟨c.w.heap.size,cells,e.1,(0,0),rfl,rfl,hnew,hcs⟩)
  rwa[hl] at this
 |false=>
  replace h3:=h3.2 hin
  obtain⟨g1,g2⟩:=Cx.world hi.heap (w':=c.w.alloc (.cells cells e.1)) (fun b hb=>heap_alloc_old c.w _ b hb) (by simp) rfl rfl rfl
  refine eU hd r1 (hk _ { c with w:=c.w.alloc (.cells cells e.1)} _ h3 g2 ?_ g1)
  simp only[aG]
  refine⟨some ⟨c.w.heap.size,0,none⟩,len,by rw[hl],by omega,hlm,.inr ⟨c.w.heap.size,0,us,rfl,r2.grow g1,r3,fun j v hv=>?_,by simp,?_⟩⟩
  ·rw[iW hnew,Nat.zero_add,← Array.getElem?_toList,r4];exact hv
  ·rintro⟨id,o',⟨B,hB,hBl⟩,hθ⟩
   have:=eD.lt (hi.heap.eS id B hB) hBl hθ
   omega
theorem vG {t:Nat} {x y:Operand} (hT:aq P T) (hi:Inv G nt B c env a) (ho:o.op= .makeSlice t x y) (h:c7 P G T own env c.H o.dst o.type (.makeSlice t x y) k)
 (hk:∀ x c' u,k x c'.H→aT c'→aG c' x u→Grow c c'→next (a.put o.dst u) c'.w):o.wpIn (FR ρ) 0 P a c.w next Q:=by
 obtain⟨e,h1,xv,h2,n,h3,yv,h4,m,h5,⟨rfl,hn,hb0,hs0,hb⟩,hzf,hkk⟩:=h
 obtain⟨ht,hei⟩:=dS hT h1
 obtain⟨_,info,z,i1,i2,i3,i4,i5,i6⟩:=hei
 obtain⟨z1,z2⟩:=i5 c
 have hd:∀ c,o.op≠ .defer c:=by rw[ho];intro _ e;cases e
 obtain⟨ki,rfl⟩:=jI h3
 obtain⟨kj,rfl⟩:=jI h5
 have hx:=bZ hi h2
 have hy:=bZ hi h4
 simp only[aG] at hx hy
 have hbig:m.toNat≤70368744177664:=Nat.le_trans (Nat.le_mul_of_pos_right _ hb0) hb
 have hby:(info.bytes:Int)*m≤281474976710656:=by
  rw[i3,show m=(m.toNat:Int) by omega,← Int.natCast_mul,Nat.mul_comm]
  omega
 have hrun:=run_make (P:=P) c.w t e.1 info z ht i1 i4 ki kj m m hn (Int.le_refl _) hby (by omega)
 have hpos:0<z.cells.size:=by rw[i6];exact hs0
 have hzl:=iP z hpos m.toNat
 have hlen:(List.replicate m.toNat e.2.zero).length=m.toNat:=List.length_replicate
 obtain⟨g1,g2⟩:=gY hi.heap (aD.replicate z1 m.toNat) (fun u hu=>by rw[List.eq_of_mem_replicate hu];exact⟨i6,z2⟩) (madeCells z.cells (m.toNat*info.size)) [] (by
  rw[i2,← i6,List.append_nil,← hzl];rfl) e.1 (0,0) (.inl rfl) (w0:=c.w) rfl rfl rfl rfl
 refine eU (u:= .slice (some ⟨c.w.heap.size,0,none⟩) m.toNat m.toNat) hd (by simp[execOp,ho,hx.1,hy.1,hrun]) (hk _ _ _ hkk g2 ?_ g1)
 have:=gj c e.2.size (List.replicate m.toNat e.2.zero) (some (c.w.heap.size,0)) (c.w.alloc (.cells (madeCells z.cells (m.toNat*info.size)) e.1)) (a:=some ⟨c.w.heap.size,0,none⟩) (cap:=m.toNat) (by omega) (by unfold maxLen;omega) (.inr ⟨c.w.heap.size,_,e.1,(0,0),rfl,rfl,heap_alloc_new c.w _,by rw[size_madeCells,i2]⟩)
 rwa[hlen] at this
theorem BN {t:Nat} {x:Operand} {lo:Option Operand} {hi' mx:Operand} (hT:aq P T) (hi:Inv G nt B c env a) (ho:o.op= .slice t x lo (some hi') (some mx)) (h:c7 P G T own env c.H o.dst o.type (.slice t x lo (some hi') (some mx)) k)
 (hk:∀ x c' u,k x c'.H→aT c'→aG c' x u→Grow c c'→next (a.put o.dst u) c'.w):o.wpIn (FR ρ) 0 P a c.w next Q:=by
 obtain⟨e,h1,v,h2,n,h3,l,h4,hh,h5,m,h6,⟨e1,e2,e3,e4⟩,hs,hkk⟩:=h
 obtain⟨hu,hei⟩:=dS hT h1
 obtain⟨info,i1,i2,_⟩:=eQ hei
 have hv:=bZ hi h2
 have hd:∀ c,o.op≠ .defer c:=by rw[ho];intro _ e;cases e
 have hlo:(lo.map a.eval=none∧l=0)∨∃ i,lo.map a.eval=some (.int i l):=by
  rcases ig hi h4 with⟨rfl,rfl⟩|⟨z,i,rfl,hz⟩
  ·exact .inl ⟨rfl,rfl⟩
  ·exact .inr ⟨i,by simp[hz]⟩
 obtain⟨jh,hhi⟩:∃ i,a.eval hi'= .int i hh:=by
  rcases ig hi h5 with⟨hq,_⟩|⟨z,i,hq,hz⟩
  ·cases hq
  ·cases hq;exact⟨i,hz⟩
 obtain⟨jm,hmx⟩:∃ i,a.eval mx= .int i m:=by
  rcases ig hi h6 with⟨hq,_⟩|⟨z,i,hq,hz⟩
  ·cases hq
  ·cases hq;exact⟨i,hz⟩
 have hsl:∃ aa cap,a.eval x= .slice aa n cap∧n≤cap:=by
  cases v with
  |nil=>simp only[fp,Option.some.injEq] at h3;subst h3;simp only[aG] at hv;exact⟨none,0,hv,Nat.le_refl _⟩
  |list sz xs=>simp only[fp,Option.some.injEq] at h3;subst h3;simp only[aG] at hv;obtain⟨aa,cap,g1,g2,_⟩:=hv;exact⟨aa,cap,g1,g2⟩
  |sl id g off len=>
   simp only[fp,Option.some.injEq] at h3;subst h3
   simp only[ee] at hs
   cases hb:db c.H id g with
   |none=>rw[hb] at hs;cases hs
   |some p=>
    obtain⟨sz,vals⟩:=p
    simp only[aG,cL hb] at hv
    rcases hv.2 with hv|⟨_,_,aa,cap,g1,g2,_⟩
    ·omega
    ·exact⟨aa,cap,g1,g2⟩
  |_=>simp[ee] at hs
 obtain⟨aa,cap,hx,hcap⟩:=hsl
 have hb:(Instr.sliceBounds true n cap (lo.map a.eval) (some (.int jh hh)) (some (.int jm m))).run P c.w= .ok (l.toNat,hh.toNat,m.toNat) c.w:=by
  have q1:0≤m∧m≤(cap:Int):=⟨by omega,by omega⟩
  have q2:0≤hh∧hh≤((m.toNat:Nat):Int):=⟨by omega,by omega⟩
  have q3:0≤l∧l≤((hh.toNat:Nat):Int):=⟨by omega,by omega⟩
  rcases hlo with⟨hl,rfl⟩|⟨i,hl⟩<;>rw[hl]<;>simp only[Instr.sliceBounds,Instr.sliceBound,asIntOf,Sem.run_bind,Sem.run_pure,Result.andThen_ok,q1,q2,q3,and_self,if_true]<;>rfl
 obtain⟨g1,g2⟩:=Cx.fresh hi.heap c.w.heap.size (Nat.le_refl _) 0 none (.inl rfl) .dead (w':=c.w) (fun _ _=>rfl) (Nat.le_refl _) rfl rfl rfl (fun hg=>trivial)
 refine eU hd (u:= .slice (if m.toNat=l.toNat then aa else aa.map (·.add (l.toNat*e.2.size))) (hh.toNat - l.toNat) (m.toNat - l.toNat)) (w':=c.w) ?_ (hk (.sl c.H.length 0 0 0) (c.add .dead none c.w) _ hkk g2 ?_ g1)
 ·simp[execOp,ho,Instr.sliceAt,run_underlying hu,Instr.slice,hx,hhi,hmx,hb,sizeOf,typeInfo,i1,i2]
 ·simp only[aG,List.getElem?_concat_length]
  exact⟨rfl,trivial⟩
theorem GY (hi:Inv G nt B c env a) {t:Nat} {i:TI} (ht:aN P t i) {v:SV} {u:Value} (hv:aG c v u) (hf:mB c.H i.d v=true) {n:Nat} (hn:fp c.H v=some n) (hm:∀ k e,i.d= .map k e→n≤9223372036854775807) (ty:Nat):
 (Builtin.len_ #[t] ty #[u]).run P c.w= .ok (.int .i64 n) c.w∧aG c (.int .i64 n) (.int .i64 n):=by
 have hd:=ht.1
 have fin:∀ n:Nat,n≤9223372036854775807→aG c (.int .i64 n) (.int .i64 n):=fun n h=>by
  simp only[aG,IntKind.min,IntKind.max,IntKind.signed,IntKind.bits]
  refine⟨trivial,?_,?_⟩<;>simp<;>omega
 cases hdd:i.d with
 |str=>
  rw[hdd] at hf hd
  cases v with
  |str s=>
   simp only[fp,Option.some.injEq] at hn;subst hn
   simp only[aG] at hv
   have hu:P.underlying t=some .string:=hd
   have hsz:(ByteArray.mk ⟨s⟩).size=s.length:=rfl
   exact⟨by simp[Builtin.len_,run_underlying hu,hv.1,goInt,hsz],fin _ (by have:=hv.2;unfold maxLen at this;omega)⟩
  |_=>cases hf
 |slice e=>
  rw[hdd] at hf hd
  have hu:P.underlying t=some (.slice e):=hd
  cases v with
  |nil=>simp only[fp,Option.some.injEq] at hn;subst hn;simp only[aG] at hv;exact⟨by simp[Builtin.len_,run_underlying hu,hv,goInt],fin _ (by omega)⟩
  |list sz xs=>
   simp only[fp,Option.some.injEq] at hn;subst hn
   simp only[aG] at hv
   obtain⟨aa,cap,h1,h2,h3,_⟩:=hv
   exact⟨by simp[Builtin.len_,run_underlying hu,h1,goInt],fin _ (by unfold maxLen at h3;omega)⟩
  |sl id g off len=>
   simp only[fp,Option.some.injEq] at hn;subst hn
   simp only[mB,Option.isSome_iff_exists] at hf
   obtain⟨⟨sz,vals⟩,hb⟩:=hf
   simp only[aG,cL hb] at hv
   rcases hv.2 with hv|⟨_,_,aa,cap,h1,h2,h3,_⟩
   ·omega
   ·exact⟨by simp[Builtin.len_,run_underlying hu,h1,goInt],fin _ (by unfold maxLen at h3;omega)⟩
  |_=>cases hf
 |map kt e=>
  rw[hdd] at hf hd
  have hu:P.underlying t=some (.map kt e):=hd
  cases v with
  |bM=>simp only[fp,Option.some.injEq] at hn;subst hn;simp only[aG] at hv;exact⟨by simp[Builtin.len_,run_underlying hu,hv,goInt],fin _ (by omega)⟩
  |map id=>
   simp only[fp] at hn
   split at hn
   ·rename_i kd es hb
    cases hn
    simp only[aG,hb] at hv
    obtain⟨_,b,h1,h2⟩:=hv
    obtain⟨b',ents,clk,h3,h4,h5,_⟩:=hi.heap.eS id _ hb
    rw[h1] at h3;cases h3
    have hlen:∀ {es:List (SV×SV)} {l:List MapEntry},cC c es l→l.length=es.length:=by
     intro es
     induction es with
     |nil=>intro l h;simp only[cC] at h;rw[h];rfl
     |cons p es ih=>intro l h;obtain⟨q,x⟩:=p;simp only[cC] at h;obtain⟨e',es',_,_,h3,rfl⟩:=h;simp[ih h3]
    have hle:=hlen h5
    rw[Array.length_toList] at hle
    exact⟨by simp[Builtin.len_,run_underlying hu,h2,MapKept.run_getObj_map h4,goInt,hle],fin _ (hm kt e hdd)⟩
   ·cases hn
  |_=>cases hf
 |_=>rw[hdd] at hf;cases v<;>cases hf
theorem qj {w:World} {b o:Nat} {vs:List Value} (ht:w.there b o vs.length) (h1:∀ v∈vs,v.oneCell'=true):(storeCells ⟨b,o,none⟩ vs).run P w= .ok () (w.setCells b o vs):=by
 have:=run_storeCells_cells (P:=P) b o vs 0 w (fun j hj=>(ht j hj).1) (fun j hj=>(ht j hj).2) h1
 simpa using this
theorem E2 {d s:Operand} {t ts:Nat} (hT:aq P T) (hi:Inv G nt B c env a) (hk:∀ x c' u,k x c'.H→aT c'→aG c' x u→Grow c c'→next (a.put o.dst u) c'.w)
 (ho:o.op= .call { callee:= .builtin .copy,args:=⟨[d,s]⟩,argTypes:=⟨[t,ts]⟩}) {e e':Nat×TI} (h1:elemOf T t=some e) (h2:elemOf T ts=some e') {dv sv:SV} (h3:ev G env d=some dv) (h4:ev G env s=some sv) {ys:List SV} (h5:ee c.H sv=some ys) (h6:kU c.H e.2.size sv=true)
 (h7:match (generalizing:=false) dv with
  | .sl id g off len=>aJ (db c.H id g) fun b=>cn (b.1=e.2.size∧0<e.2.size∧off+len≤b.2.length)
   (k (.int .i64 (min ys.length len:Nat)) (c.H.set id (.cells g e.2.size (b.2.take off++ys.take (min ys.length len)++b.2.drop (off+min ys.length len)))))
  |_=>False):o.wpIn (FR ρ) 0 P a c.w next Q:=by
 have hd:∀ c,o.op≠ .defer c:=by rw[ho];intro _ e;cases e
 obtain⟨ht,hei⟩:=dS hT h1
 obtain⟨hts,_⟩:=dS hT h2
 obtain⟨info,i1,i2,_⟩:=eQ hei
 cases dv with
 |sl id g off len=>
  obtain⟨⟨bsz,vals⟩,hb1,⟨hsz,hs0,hoff⟩,hkk⟩:=h7
  simp only at hsz hoff hkk
  subst hsz
  have hb':=cL hb1
  have hdv:=bZ hi h3
  have hdv':=hdv
  simp only[aG,hb'] at hdv
  rcases hdv.2 with hq|⟨_,_,aa,cap,hda,hcap,hcapm,hcapd⟩
  ·omega
  obtain⟨sa,scap,vs,q1,q2,q3,q4,q5,q6⟩:=zf hi.heap (bZ hi h4) h5 h6
  have hvl:vs.length=ys.length:=q4.length
  generalize hN:min ys.length len=N at hkk
  have hN1:N≤ys.length:=by omega
  have hN2:N≤len:=by omega
  have hmin:Nat.min ys.length len=N:=hN
  have hrep:aG c (.int .i64 (N:Int)) (goInt N):=by
   simp only[aG,goInt,IntKind.min,IntKind.max,IntKind.signed,IntKind.bits]
   refine⟨trivial,?_,?_⟩<;>simp<;>unfold maxLen at hcapm<;>omega
  by_cases h0:N=0
  ·subst h0
   have hset:c.H.set id (.cells g e.2.size (vals.take off++ys.take 0++vals.drop (off+0)))=c.H:=by
    rw[List.take_zero,lA,sG hb']
   rw[hset] at hkk
   refine wp_pure (u:=goInt 0) hi hk hd hrep hkk ?_
   have hl:∀ (x:Addr),(loadCells x 0).run P c.w= .ok #[] c.w:=fun x=>by simpa using run_loadCells_list (P:=P) c.w x [] (by simp)
   cases aa<;>cases sa<;>simp[execOp,ho,resolve,invoke,builtin,hda,q1,Builtin.copy_,run_underlying ht,Builtin.lenOf,Builtin.firstCells,sizeOf,typeInfo,i1,hmin,storeCells,hl,goInt]
  ·rcases hcapd with hcapd|⟨b,o1,cs,Ty,fr,e1,e2,e3,e4⟩
   ·omega
   rcases q6 with q6|⟨sb,so,q6,q7⟩
   ·subst q6;simp at hN1;omega
   have hyt:(ys.take N).length=N:=by simp;omega
   have hvt:(vs.take N).length=N:=by simp;omega
   have hcl:(cellsOf (vs.take N)).length=N*e.2.size:=by rw[br (fun u h=>(q5 u (List.mem_of_mem_take h)).1),hvt]
   have hu:∀ u∈vs.take N,u.cells.size=e.2.size∧cI u:=fun u h=>q5 u (List.mem_of_mem_take h)
   obtain⟨hthere,g1,g2⟩:=sZ hi.heap hb' e1 off (q4.take N) hu (by rw[hyt];omega)
   rw[hyt] at g1 g2
   have hst:=qj (P:=P) hthere (ng fun u h=>(hu u h).2)
   have hld:(loadCells ⟨sb,so,none⟩ (N*e.2.size)).run P c.w= .ok (cellsOf (vs.take N)).toArray c.w:=by
    rw[← hcl]
    exact run_loadCells_list (P:=P) c.w _ _ (fun j v hj=>by
     rw[Addr.add_mid]
     have hpre:cellsOf vs=cellsOf (vs.take N)++cellsOf (vs.drop N):=by rw[← cf,List.take_append_drop]
     exact q7 j v (by rw[hpre,List.getElem?_append_left (List.getElem?_eq_some_iff.1 hj).1];exact hj))
   subst e2 q6
   have hfin:=hk (.int .i64 (N:Int)) _ (goInt N) hkk g2 (hrep.grow g1) g1
   refine eU hd ?_ hfin
   simp[execOp,ho,resolve,invoke,builtin,hda,q1,Builtin.copy_,run_underlying ht,Builtin.lenOf,Builtin.firstCells,sizeOf,typeInfo,i1,i2,hmin,hld,hst,goInt]
 |_=>exact h7.elim
theorem Ct {x:Operand} {t:Nat} (hT:aq P T) (hi:Inv G nt B c env a) (hk:∀ x c' u,k x c'.H→aT c'→aG c' x u→Grow c c'→next (a.put o.dst u) c'.w)
 (ho:o.op= .call { callee:= .builtin .clear,args:=⟨[x]⟩,argTypes:=⟨[t]⟩}) {e:Nat×TI} (h1:elemOf T t=some e) {xv:SV} (h2:ev G env x=some xv)
 (h3:match (generalizing:=false) xv with
  | .nil=>k (.tuple []) c.H
  | .sl id g off len=>aJ (db c.H id g) fun b=>cn (b.1=e.2.size∧0<e.2.size∧off+len≤b.2.length)
   (k (.tuple []) (c.H.set id (.cells g e.2.size (b.2.take off++List.replicate len e.2.zero++b.2.drop (off+len)))))
  |_=>False):o.wpIn (FR ρ) 0 P a c.w next Q:=by
 have hd:∀ c,o.op≠ .defer c:=by rw[ho];intro _ e;cases e
 obtain⟨ht,hei⟩:=dS hT h1
 obtain⟨_,info,z,i1,i2,i3,i4,i5,i6⟩:=hei
 obtain⟨z1,z2⟩:=i5 c
 have hrep:∀ c,aG c (.tuple []) (.tuple #[]):=fun c=>by simp only[aG];exact⟨[],aD.cw,rfl⟩
 have hx:=bZ hi h2
 cases xv with
 |nil=>
  simp only[aG] at hx
  refine wp_pure hi hk hd (hrep c) h3 ?_
  simp[execOp,ho,resolve,invoke,builtin,hx,Builtin.clear_,run_underlying ht]
 |sl id g off len=>
  obtain⟨⟨bsz,vals⟩,hb1,⟨hsz,hs0,hoff⟩,hkk⟩:=h3
  simp only at hsz hoff hkk
  subst hsz
  have hb':=cL hb1
  simp only[aG,hb'] at hx
  rcases hx.2 with hq|⟨_,_,aa,cap,hda,hcap,hcapm,hcapd⟩
  ·omega
  by_cases h0:len=0
  ·subst h0
   have hset:c.H.set id (.cells g e.2.size (vals.take off++List.replicate 0 e.2.zero++vals.drop (off+0)))=c.H:=by
    rw[List.replicate_zero,lA,sG hb']
   rw[hset] at hkk
   refine wp_pure hi hk hd (hrep c) hkk ?_
   cases aa<;>simp[execOp,ho,resolve,invoke,builtin,hda,Builtin.clear_,run_underlying ht]
  ·rcases hcapd with hcapd|⟨b,o1,cs,Ty,fr,e1,e2,e3,e4⟩
   ·omega
   have hu:∀ u∈List.replicate len z,u.cells.size=e.2.size∧cI u:=fun u h=>by rw[List.eq_of_mem_replicate h];exact⟨i6,z2⟩
   obtain⟨hthere,g1,g2⟩:=sZ hi.heap hb' e1 off (aD.replicate z1 len) hu (by rw[List.length_replicate];exact hoff)
   rw[List.length_replicate] at g1 g2
   have hst:=qj (P:=P) hthere (ng fun u h=>(hu u h).2)
   have hzl:(Builtin.zeroCells z.cells len).toList=cellsOf (List.replicate len z):=iP z (by rw[i6];exact hs0) len
   subst e2
   have hfin:=hk (.tuple []) _ (.tuple #[]) hkk g2 (hrep _) g1
   refine eU hd ?_ hfin
   cases len with
   |zero=>exact absurd rfl h0
   |succ len=>simp[execOp,ho,resolve,invoke,builtin,hda,Builtin.clear_,run_underlying ht,zeroValue,typeInfo,i1,i4,hzl,hst]
 |_=>exact h3.elim
theorem zr {b:Builtin} {args:Array Operand} {tys:Array Nat} (hT:aq P T) (hi:Inv G nt B c env a) (ho:o.op= .call { callee:= .builtin b,args,argTypes:=tys}) (h:ep T G env c.H b args.toList tys.toList k)
 (hk:∀ x c' u,k x c'.H→aT c'→aG c' x u→Grow c c'→next (a.put o.dst u) c'.w):o.wpIn (FR ρ) 0 P a c.w next Q:=by
 have hd:∀ c,o.op≠ .defer c:=by rw[ho];intro _ e;cases e
 obtain⟨args⟩:=args
 obtain⟨tys⟩:=tys
 simp only at h
 unfold ep at h
 split at h
 ·rename_i x t
  obtain⟨i,h1,v,h2,h3,n,h4,h5⟩:=h
  have hkn:k (.int .i64 n) c.H∧∀ kk e,i.d= .map kk e→n≤9223372036854775807:=by
   split at h5
   ·rename_i kk e he;exact⟨h5.2,fun _ _ _=>h5.1⟩
   ·rename_i hne;exact⟨h5,fun kk e he=>absurd he (hne kk e)⟩
  obtain⟨r1,r2⟩:=GY (P:=P) hi (hT t i h1) (bZ hi h2) h3 h4 hkn.2 o.type
  exact wp_pure hi hk hd r2 hkn.1 (by simp[execOp,ho,resolve,invoke,builtin,r1])
 ·rename_i s x t tx
  obtain⟨e,h1,ix,h2,sv,h3,xv,h4,h5⟩:=h
  obtain⟨ht,hei⟩:=dS hT h1
  have key:∀ {ys:List SV} {vs:List Value},aD c ys vs→(∀ u∈vs,u.cells.size=e.2.size∧cI u)→Src P e.2.size tx (a.eval x) ys.length (cellsOf vs) c.w→eZ c.H e.2 sv ys k→o.wpIn (FR ρ) 0 P a c.w next Q:=fun q1 q2 q3 q4=>by
   obtain⟨z,c',u,k1,k2,k3,k4,k5⟩:=AG hi.heap ht hei (bZ hi h3) q1 q2 q3 o.type q4
   exact eU hd (by simp[execOp,ho,resolve,invoke,builtin,k5]) (hk z c' u k1 k2 k3 k4)
  have hix:=(hT tx ix h2).1
  split at h5
  ·rename_i e' he
   rw[he] at hix
   obtain⟨ys,h6,h7,h8⟩:=h5
   obtain⟨vs,q1,q2,q3⟩:=Hl (P:=P) hi.heap (bZ hi h4) h6 h7 hix
   exact key q1 q2 q3 h8
  ·rename_i he
   rw[he] at hix
   cases xv with
   |str bs=>
    obtain⟨h6,h7⟩:=h5
    obtain⟨vs,q1,q2,q3⟩:=vB (P:=P) (c:=c) bs hix
    have hxv:=bZ hi h4
    simp only[aG] at hxv
    exact key q1 (by rw[h6];exact q2) (by rw[h6,hxv.1];exact q3) h7
   |_=>exact h5.elim
  ·exact h5.elim
 ·rename_i d s t ts
  obtain⟨e,h1,e',h2,dv,h3,sv,h4,ys,h5,h6,h7⟩:=h
  exact E2 hT hi hk ho h1 h2 h3 h4 h5 h6 h7
 ·rename_i x t
  obtain⟨e,h1,xv,h2,h3⟩:=h
  exact Ct hT hi hk ho h1 h2 h3
 ·rename_i x y
  obtain⟨p,h1,q,h2,h3⟩:=h
  cases p with
  |int i m=>cases q with
   |int j n=>
    obtain⟨h4,h5⟩:=h3
    have r1:=bZ hi h1
    have r2:=bZ hi h2
    simp only[aG] at r1 r2
    refine wp_pure (u:= .int i (if n<m then n else m)) hi hk hd (by simp only[aG];refine⟨trivial,?_⟩;split<;>first|exact h4|exact r1.2) h5 ?_
    simp[execOp,ho,resolve,invoke,builtin,Builtin.min_,Builtin.min2,r1.1,r2.1]
   |_=>exact h3.elim
  |_=>exact h3.elim
 ·rename_i x y
  obtain⟨p,h1,q,h2,h3⟩:=h
  cases p with
  |int i m=>cases q with
   |int j n=>
    obtain⟨h4,h5⟩:=h3
    have r1:=bZ hi h1
    have r2:=bZ hi h2
    simp only[aG] at r1 r2
    refine wp_pure (u:= .int i (if m<n then n else m)) hi hk hd (by simp only[aG];refine⟨trivial,?_⟩;split<;>first|exact h4|exact r1.2) h5 ?_
    simp[execOp,ho,resolve,invoke,builtin,Builtin.max_,Builtin.max2,r1.1,r2.1]
   |_=>exact h3.elim
  |_=>exact h3.elim
 ·exact h.elim
theorem FW {f:Operand} {args:Array Operand} {tys:Array Nat} (hi:Inv G nt B c env a) (ho:o.op= .call { callee:= .value f,args,argTypes:=tys}) {fv:SV} {xs:List SV} (hf:ev G env f=some fv) (hx:jL G env args.toList=some xs)
 (h:bL P G fv xs c.H fun r H'=>qL (k r H'))
 (hk:∀ x c' u,k x c'.H→aT c'→aG c' x u→Grow c c'→next (a.put o.dst u) c'.w):o.wpIn (FR ρ) 0 P a c.w next Q:=by
 have hd:∀ c,o.op≠ .defer c:=by rw[ho];intro _ e;cases e
 obtain⟨d,w1,h1,h2⟩:=h c (a.eval f) (args.toList.map a.eval) rfl hi.heap hi.iS (bZ hi hf) (uU hi hx)
 refine⟨fun _ _=>trivial,?_⟩
 rw[Oper.semAt_eq _ _ _ hd]
 have harr:args.map a.eval=(args.toList.map a.eval).toArray:=by rw[← Array.toList_inj];simp
 have hres:(resolve a.eval { callee:= .value f,args,argTypes:=tys} o.type).run P c.w= .ok d w1:=by
  simp only[resolve];rw[harr];exact h1
 have hm:∀ {R:Ending→World→Prop},(∀ v w',(∃ x c',c'.w=w'∧k x c'.H∧aT c'∧aG c' x v∧Grow c c')→R (.returned v) w')→∀ e w',qK c (fun r H'=>qL (k r H')) e w'→R e w':=fun hR e w' ⟨v,x,c',e1,e2,e3,e4,e5,e6⟩=>by
  subst e1;exact hR v w' ⟨x,c',e2,e3,e4,e5,e6⟩
 rcases h2 with⟨g,asv,w2,b1,b2⟩|⟨l,g,tmps,asn,bd,w2,b1,b2⟩
 ·have hrun:(execOp a.eval o).run P c.w= .ok (.enter g asv) w2:=by
   simp only[execOp,ho,Sem.run_bind,hres,Result.andThen_ok,b1]
  rw[hrun]
  refine⟨fun hh=>(by cases hh),CallsIn.mono (F:=FR ρ) b2 fun e w' he=>?_⟩
  obtain⟨v,x,c',rfl,rfl,e3,e4,e5,e6⟩:=he
  exact hk x c' v e3 e4 e5 e6
 ·have hrun:(execOp a.eval o).run P c.w= .ok (.round l g tmps asn bd) w2:=by
   simp only[execOp,ho,Sem.run_bind,hres,Result.andThen_ok,b1]
  rw[hrun]
  refine⟨fun hh=>(by cases hh),RoundIn.mono (F:=FR ρ) b2 fun e w' he=>?_⟩
  obtain⟨v,x,c',rfl,rfl,e3,e4,e5,e6⟩:=he
  exact hk x c' v e3 e4 e5 e6
theorem uV (hT:aq P T) (hi:Inv G nt B c env a) (h:c7 P G T own env c.H o.dst o.type o.op k)
 (hk:∀ x c' u,k x c'.H→aT c'→aG c' x u→Grow c c'→next (a.put o.dst u) c'.w):o.wpIn (FR ρ) 0 P a c.w next Q:=by
 cases ho:o.op with
 |move x=>rw[ho] at h;exact wp_move hi ho h hk
 |assign x=>rw[ho] at h;exact wp_assign hi ho h hk
 |pick x y z=>rw[ho] at h;exact FY hi ho h hk
 |alloc t=>rw[ho] at h;exact Ep hT hi ho h hk
 |box t x=>rw[ho] at h;exact Hp hT hi ho h hk
 |build t x=>rw[ho] at h;exact wp_build hT hi ho h hk
 |buildSlice t n x=>rw[ho] at h;exact wp_buildSlice hT hi ho h hk
 |load t x=>rw[ho] at h;exact FX hT hi ho h hk
 |store t x y=>rw[ho] at h;exact Ew hT hi ho h hk
 |nilCheck x=>rw[ho] at h;exact x9 hi ho h hk
 |binOp op t x y yt=>rw[ho] at h;exact Er hT hi ho h hk
 |unOp op t x=>rw[ho] at h;exact FZ hi ho h hk
 |convert s t x=>rw[ho] at h;exact zt hT hi ho h hk
 |makeFunc f x y=>rw[ho] at h;exact x8 hi ho h hk
 |makeMap t r=>rw[ho] at h;cases r with
  |none=>exact zv hi ho h hk
  |some r=>exact h.elim
 |slice t x lo hi' mx=>rw[ho] at h;cases mx with
  |none=>exact Ev hT hi ho h hk
  |some r=>cases hi' with
   |none=>exact h.elim
   |some q=>exact BN hT hi ho h hk
 |makeSlice t x y=>rw[ho] at h;exact vG hT hi ho h hk
 |fieldAddr t x f=>rw[ho] at h;exact vE hT hi ho h hk
 |field t x f=>rw[ho] at h;exact Es hT hi ho h hk
 |indexAddr t x i=>rw[ho] at h;exact vF hT hi ho h hk
 |index t x i=>rw[ho] at h;exact Et hT hi ho h hk
 |lookup t x i ok=>rw[ho] at h;exact BM hT hi ho h hk
 |mapUpdate t m x y=>rw[ho] at h;exact oX hT hi (.inl ho) h hk
 |insert t m x y=>rw[ho] at h;exact oX (own:=own) hT hi (.inr ho) h hk
 |extract x i=>rw[ho] at h;exact zu hi ho h hk
 |call cl=>
  rw[ho] at h
  obtain⟨cal,args,tys⟩:=cl
  cases cal with
  |builtin b=>exact zr hT hi ho h hk
  |value f=>obtain⟨fv,h1,xs,h2,h3⟩:=h;exact FW hi ho h1 h2 h3 hk
  |invoke r m=>exact h.elim
 |_=>rw[ho] at h;exact h.elim
end
end
section
abbrev Env:=List (Nat×SV)
def kM (nt:Nat) (d:Option Nat) (x:SV) (env:Env) (k:Env→Prop):Prop:=
 match d with
 |some d=>cn (d<nt) (k ((d,x)::env))
 |none=>k env
def uI:SV→Option (Option Bool)
 | .bool b=>some (some b)
 | .undef=>some none
 |_=>none
def iZ (P:Program) (G:Gl) (T:aE) (own:List Nat) (nt:Nat) (all:List Oper):List Oper→Env→List az→(Env→List az→Prop)→Prop
 |[],env,H,k=>k env H
 |o::r,env,H,k=>
  match o.guard with
  |none=>c7 P G T own env H o.dst o.type o.op fun x H'=>kM nt o.dst x env fun env'=>iZ P G T own nt all r env' H' k
  |some (j,want)=>aJ ((all[j]?).bind (·.dst)) fun d=>aJ (look env d) fun v=>aJ (uI v) fun g=>
   Br (g==some want) (c7 P G T own env H o.dst o.type o.op fun x H'=>kM nt o.dst x env fun env'=>iZ P G T own nt all r env' H' k)
    (kM nt o.dst .undef env fun env'=>iZ P G T own nt all r env' H k)
@[congr] theorem Hf {nt:Nat} {d:Option Nat} {x x':SV} {env env':Env} {k:Env→Prop} (h1:x=x') (h2:env=env'):kM nt d x env k=kM nt d x' env' k:=by rw[h1,h2]
@[congr] theorem Gc {P:Program} {G:Gl} {T:aE} {own:List Nat} {nt:Nat} {all l:List Oper} {env env':Env} {H H':List az} {k:Env→List az→Prop} (h1:env=env') (h2:H=H'):
 iZ P G T own nt all l env H k=iZ P G T own nt all l env' H' k:=by rw[h1,h2]
structure St where
 env:Env
 H:List az
def ey (P:Program) (G:Gl) (nt:Nat) (ρ:Option Nat) (C:Cx) (cd:Code) (Q:Exit→St→Prop) (s:St):Prop:=
 ∀ c a,c.H=s.H→Inv G nt C.w.heap.size c s.env a→Grow C c→cd.wpIn (FR ρ) 0 P (fun e a' w'=>∃ s' c',Q e s'∧c'.H=s'.H∧c'.w=w'∧Inv G nt C.w.heap.size c' s'.env a'∧Grow C c') a c.w
@[congr] theorem Hr {P:Program} {G:Gl} {nt:Nat} {ρ:Option Nat} {C:Cx} {cd:Code} {Q:Exit→St→Prop} {s s':St} (h:s=s'):ey P G nt ρ C cd Q s=ey P G nt ρ C cd Q s':=by rw[h]
section
variable {P:Program} {G:Gl} {T:aE} {own:List Nat} {nt B:Nat} {ρ:Option Nat} {C:Cx}
theorem k7 {c:Cx} {env:Env} {a:Act} (hi:Inv G nt B c env a) {ops:Array Oper} {j d:Nat} {v:SV} {g:Option Bool} (h1:(ops.toList[j]?).bind (·.dst)=some d) (h2:look env d=some v) (h3:uI v=some g):yielded ops a.tmps j=g:=by
 have hr:=hi.env d v h2
 unfold yielded
 rw[Array.getElem?_toList] at h1
 rw[h1,Option.bind_some]
 rw[Array.getD_eq_getD_getElem?] at hr
 cases v<;>simp only[uI,Option.some.injEq] at h3<;>try (cases h3;done)
 ·subst h3
  simp only[aG] at hr
  cases ht:a.tmps[d]? with
  |none=>rfl
  |some u=>rw[ht] at hr;simp only[Option.getD_some] at hr;rw[hr];rfl
 ·subst h3
  simp only[aG] at hr
  cases ht:a.tmps[d]? with
  |none=>rw[ht] at hr;simp[undef] at hr
  |some u=>rw[ht] at hr;simp only[Option.getD_some] at hr;rw[hr]
theorem lC (hT:aq P T) {ops:Array Oper} {Q:Exit→Act→World→Prop} {k:Env→List az→Prop}:∀ (m i:Nat),i+m=ops.size→∀ {c:Cx} {env:Env} {a:Act},Inv G nt B c env a→iZ P G T own nt ops.toList (ops.toList.drop i) env c.H k→
 (∀ env' c' a',k env' c'.H→Inv G nt B c' env' a'→Grow c c'→Q .normal a' c'.w)→wpOpsIn (FR ρ) 0 P ops Q (List.range' i m) a c.w
 |0,i,hm,c,env,a,hi,h,hk=>by
  have:ops.toList.drop i=[]:=List.drop_eq_nil_of_le (by simp;omega)
  rw[this] at h
  exact hk env c a h hi (Grow.refl c)
 |m+1,i,hm,c,env,a,hi,h,hk=>by
  have hlt:i<ops.size:=by omega
  have hget:ops[i]? =some ops[i]:=Array.getElem?_eq_getElem hlt
  have hdrop:ops.toList.drop i=ops[i]::ops.toList.drop (i+1):=by
   rw[List.drop_eq_getElem_cons (by simpa using hlt)];simp
  rw[hdrop] at h
  simp only[List.range'_succ,wpOpsIn,hget]
  generalize ops[i]=o at h hget ⊢
  have run:c7 P G T own env c.H o.dst o.type o.op (fun x H'=>kM nt o.dst x env fun env'=>iZ P G T own nt ops.toList (ops.toList.drop (i+1)) env' H' k)→o.wpIn (FR ρ) 0 P a c.w (wpOpsIn (FR ρ) 0 P ops Q (List.range' (i+1) m)) Q:=fun hx=>by
   refine uV hT hi hx fun x c' u e1 e2 e3 e4=>?_
   cases hd:o.dst with
   |none=>
    rw[hd] at e1
    exact lC hT m (i+1) (by omega) (hi.ka e4 e2) e1 fun env' c2 a' f1 f2 f3=>hk env' c2 a' f1 f2 (e4.trans f3)
   |some d=>
    rw[hd] at e1
    exact lC hT m (i+1) (by omega) (hi.put e4 e2 e3 e1.1) e1.2 fun env' c2 a' f1 f2 f3=>hk env' c2 a' f1 f2 (e4.trans f3)
  simp only[iZ] at h
  split at h
  ·rename_i hg
   simp only[Region.wanted,hg,if_true]
   exact run h
  ·rename_i j want hg
   obtain⟨d,h1,v,h2,g,h3,h4⟩:=h
   have hy:=k7 hi h1 h2 h3
   simp only[Region.wanted,hg,hy]
   cases hgw:(g==some want) with
   |true=>
    rw[if_pos rfl]
    exact run (h4.1 hgw)
   |false=>
    rw[if_neg (by simp)]
    refine⟨fun _ _=>trivial,?_⟩
    have e1:=h4.2 hgw
    cases hd:o.dst with
    |none=>
     rw[hd] at e1
     exact lC hT m (i+1) (by omega) (hi.ka (Grow.refl c) hi.heap) e1 hk
    |some d=>
     rw[hd] at e1
     exact lC hT m (i+1) (by omega) (hi.put (Grow.refl c) hi.heap aG.undef e1.1) e1.2 hk
theorem ey.region (hT:aq P T) {id:Nat} {ops:Array Oper} {Q:Exit→St→Prop} {s:St} (h:iZ P G T own nt ops.toList ops.toList s.env s.H fun env H=>Q .normal ⟨env,H⟩):ey P G nt ρ C (.region id ops false) Q s:=by
 intro c a hc hi hg
 refine wpIn_region ?_
 rw[List.range_eq_range']
 refine lC hT (own:=own) (k:=fun env H=>Q .normal ⟨env,H⟩) ops.size 0 (by omega) hi (by rw[hc];simpa using h) fun env' c' a' e1 e2 e3=>?_
 exact⟨⟨env',c'.H⟩,c',e1,rfl,rfl,e2,hg.trans e3⟩
theorem ey.seq {x y:Code} {Q:Exit→St→Prop} {s:St} (h:ey P G nt ρ C x (fun e s'=>match e with
 | .normal=>ey P G nt ρ C y Q s'
 |e=>Q e s') s):ey P G nt ρ C (.seq x y) Q s:=by
 intro c a hc hi hg
 refine wpIn_seq (wpIn_mono (h c a hc hi hg) ?_)
 rintro e a' w' ⟨s',c',h1,h2,h3,h4,h5⟩
 cases e with
 |normal=>subst h3;exact h1 c' a' h2 h4 h5
 |_=>exact⟨s',c',h1,h2,h3,h4,h5⟩
theorem ey.skip {Q:Exit→St→Prop} {s:St} (h:Q .normal s):ey P G nt ρ C .skip Q s:=fun c a hc hi hg=>wpIn_skip ⟨s,c,h,hc,rfl,hi,hg⟩
theorem ey.ret {Q:Exit→St→Prop} {s:St} (h:Q .ret s):ey P G nt ρ C .ret Q s:=fun c a hc hi hg=>wpIn_ret ⟨s,c,h,hc,rfl,hi,hg⟩
theorem ey.exit {id:Nat} {Q:Exit→St→Prop} {s:St} (h:Q (.exit id) s):ey P G nt ρ C (.exit id) Q s:=fun c a hc hi hg=>wpIn_exit ⟨s,c,h,hc,rfl,hi,hg⟩
theorem ey.block {id:Nat} {x:Code} {Q:Exit→St→Prop} {s:St} (h:ey P G nt ρ C x (fun e s'=>match e with
 | .exit id'=>if id'=id then Q .normal s' else Q (.exit id') s'
 |e=>Q e s') s):ey P G nt ρ C (.block id x) Q s:=by
 intro c a hc hi hg
 refine wpIn_block (wpIn_mono (h c a hc hi hg) ?_)
 rintro e a' w' ⟨s',c',h1,h2,h3,h4,h5⟩
 cases e with
 |exit id'=>
  simp only[Exit.inBlock] at h1 ⊢
  split
  ·rename_i e;rw[if_pos e] at h1;exact⟨s',c',h1,h2,h3,h4,h5⟩
  ·rename_i e;rw[if_neg e] at h1;exact⟨s',c',h1,h2,h3,h4,h5⟩
 |_=>exact⟨s',c',h1,h2,h3,h4,h5⟩
theorem ey.cond {x:Operand} {p q:Code} {Q:Exit→St→Prop} {s:St} (h:aJ (ev G s.env x) fun v=>aJ (GA v) fun g=>Br g (ey P G nt ρ C p Q s) (ey P G nt ρ C q Q s)):ey P G nt ρ C (.cond x p q) Q s:=by
 intro c a hc hi hg
 obtain⟨v,h1,g,h2,h3⟩:=h
 have hr:=bZ hi h1
 rw[vT h2] at hr
 simp only[aG] at hr
 refine wpIn_cond hr ?_
 cases g with
 |true=>exact h3.1 rfl c a hc hi hg
 |false=>exact h3.2 rfl c a hc hi hg
theorem sX {F:Fence} {n:Nat} {c:Code} {Q:Exit→Act→World→Prop} {a:Act} {w:World} (I:Nat→Act→World→Prop) (N:Nat) (h₀:I N a w)
 (round:∀ j a w,I j a w→c.wpIn F n P (Exit.then (fun a' w'=>∃ i,i<j∧I i a' w') Q) a w):(Code.loop c).wpIn F n P Q a w:=by
 intro b k cs hro hb hr
 have key:∀ j a w,I j a w→
  ∃ e a' w',Q e a' w'∧ArrivesIn (Machine.fenced P F) P (lone (b.atR a (.code c:: .inLoop c::k)) cs w) b k cs e a' w':=by
  intro j
  induction j using Nat.strongRecOn with
  |_ j ih=>
   intro a w hI
   obtain⟨e,a₁,w₁,hq,harr⟩:=round j a w hI b (.inLoop c::k) cs hro hb hr
   cases e with
   |normal=>
    obtain⟨i,hlt,hI₁⟩:=hq
    obtain⟨e₂,a₂,w₂,hq₂,harr₂⟩:=ih i hlt a₁ w₁ hI₁
    exact⟨e₂,a₂,w₂,hq₂,.of_steps (StepsIn.trans harr (.one (fenced_calm hb hr rfl) stepR_inLoop)) harr₂⟩
   |exit id=>exact⟨_,a₁,w₁,hq,.pass (x:= .inLoop c) rfl (fun _ _=> .inl (by simp)) harr⟩
   |goto l=>exact⟨_,a₁,w₁,hq,.pass (x:= .inLoop c) rfl (fun _ _=> .inl (by simp)) harr⟩
   |ret=>exact⟨_,a₁,w₁,hq,.pass (x:= .inLoop c) rfl (fun _ _=> .inl (by simp)) harr⟩
   |panic ch=>exact⟨_,a₁,w₁,hq,.pass (x:= .inLoop c) rfl (fun _ _=> .inl (by simp)) harr⟩
   |outgrown=>exact⟨_,a₁,w₁,hq,.pass (x:= .inLoop c) rfl (fun _ _=> .inl (by simp)) harr⟩
 obtain⟨e,a',w',hq,harr⟩:=key N a w h₀
 exact⟨e,a',w',hq,.of_steps (.one (fenced_calm hb hr rfl) stepR_loop) harr⟩
theorem ey.loop {x:Code} {Q:Exit→St→Prop} {s:St} (I:Nat→St→Prop) (n:Nat) (h0:I n s)
 (round:∀ n s,I n s→ey P G nt ρ C x (fun e s'=>match e with
  | .normal=>∃ m,m<n∧I m s'
  |e=>Q e s') s):ey P G nt ρ C (.loop x) Q s:=by
 intro c a hc hi hg
 refine sX (fun m a' w'=>∃ s' c',I m s'∧c'.H=s'.H∧c'.w=w'∧Inv G nt C.w.heap.size c' s'.env a'∧Grow C c') n ⟨s,c,h0,hc,rfl,hi,hg⟩ ?_
 rintro j a w ⟨s',c',h1,h2,rfl,h3,h4⟩
 refine wpIn_mono (round j s' h1 c' a h2 h3 h4) ?_
 rintro e a' w' ⟨s2,c2,g1,g2,g3,g4,g5⟩
 cases e with
 |normal=>obtain⟨m,hm,g1⟩:=g1;exact⟨m,hm,s2,c2,g1,g2,g3,g4,g5⟩
 |_=>exact⟨s2,c2,g1,g2,g3,g4,g5⟩
theorem ey.mono {cd:Code} {Q Q':Exit→St→Prop} {s:St} (h:ey P G nt ρ C cd Q s) (hq:∀ e s',Q e s'→Q' e s'):ey P G nt ρ C cd Q' s:=by
 intro c a hc hi hg
 refine wpIn_mono (h c a hc hi hg) ?_
 rintro e a' w' ⟨s',c',h1,h2⟩
 exact⟨s',c',hq e s' h1,h2⟩
def H5 (P:Program) (G:Gl) (T:aE) (own:List Nat) (nt:Nat) (ρ:Option Nat) (C:Cx):Code→Env→List az→(Exit→Env→List az→Prop)→Prop
 | .skip,env,H,k=>k .normal env H
 | .label _,env,H,k=>k .normal env H
 | .ret,env,H,k=>k .ret env H
 | .exit id,env,H,k=>k (.exit id) env H
 | .cond x p q,env,H,k=>aJ (ev G env x) fun v=>aJ (GA v) fun g=>Br g (H5 P G T own nt ρ C p env H k) (H5 P G T own nt ρ C q env H k)
 | .block id x,env,H,k=>H5 P G T own nt ρ C x env H fun e env' H'=>match e with
  | .exit id'=>if id'=id then k .normal env' H' else k (.exit id') env' H'
  |e=>k e env' H'
 | .region _ ops false,env,H,k=>iZ P G T own nt ops.toList ops.toList env H fun env' H'=>k .normal env' H'
 |cd,env,H,k=>ey P G nt ρ C cd (fun e s=>k e s.env s.H) ⟨env,H⟩
omit T in
@[congr] theorem HA {T:aE} {cd:Code} {env env':Env} {H H':List az} {k:Exit→Env→List az→Prop} (h1:env=env') (h2:H=H'):H5 P G T own nt ρ C cd env H k=H5 P G T own nt ρ C cd env' H' k:=by rw[h1,h2]
end
end
section
mutual
def SV.under (n:Nat):SV→Bool
 | .ptr id _ _ _=>decide (id<n)
 | .sl id _ _ _=>decide (id<n)
 | .map id=>decide (id<n)
 | .it id=>decide (id<n)
 | .agg fs=>SV.aB n fs
 | .list _ xs=>SV.aB n xs
 | .iR x=>SV.under n x
 | .fn _ xs ys=>SV.aB n xs&&SV.aB n ys
 | .tuple xs=>SV.aB n xs
 | .fI _ _ _ _ ks vs=>SV.aB n ks&&SV.aB n vs
 |_=>true
def SV.aB (n:Nat):List SV→Bool
 |[]=>true
 |x::xs=>SV.under n x&&SV.aB n xs
end
def dX (n:Nat):List (SV×SV)→Bool
 |[]=>true
 |p::r=>SV.under n p.1&&SV.under n p.2&&dX n r
def az.under (n:Nat):az→Bool
 | .cells _ _ vals=>SV.aB n vals
 | .map _ es=>dX n es
 |_=>true
def closed (H:List az):Prop:=∀ B∈H,B.under H.length=true
theorem aG.nc (c:Cx):(∀ x v,aG c x v→x.under c.H.length=true)∧(∀ xs vs,aD c xs vs→SV.aB c.H.length xs=true):=by
 have ref:∀ id:Nat,(c.H[id]? =none→False)→decide (id<c.H.length)=true:=fun id h=>by
  rw[decide_eq_true_eq]
  by_cases hh:id<c.H.length
  ·exact hh
  ·exact(h (List.getElem?_eq_none (by omega))).elim
 apply SV.both
 ·intro x h1 h2 h3 h4 h5 h6 v h
  cases x with
  |agg fs=>exact absurd rfl (h1 fs)
  |list n xs=>exact absurd rfl (h2 n xs)
  |iR y=>exact absurd rfl (h3 y)
  |fn f a b=>exact absurd rfl (h4 f a b)
  |tuple xs=>exact absurd rfl (h5 xs)
  |fI b clk born kd ks vs=>exact absurd rfl (h6 b clk born kd ks vs)
  |ptr id g i off=>simp only[aG] at h;exact ref id fun e=>by rw[e] at h;exact h.2
  |sl id g off len=>simp only[aG] at h;exact ref id fun e=>by rw[e] at h;exact h.2
  |map id=>simp only[aG] at h;exact ref id fun e=>by rw[e] at h;exact h.2
  |it id=>simp only[aG] at h;exact ref id fun e=>by rw[e] at h;exact h.2
  |_=>rfl
 ·intro fs ih v h
  simp only[aG] at h
  obtain⟨vs,h1,_⟩:=h
  exact ih vs h1
 ·intro sz xs ih v h
  simp only[aG] at h
  obtain⟨a,cap,_,_,_,h3⟩:=h
  rcases h3 with rfl|⟨b,o,vs,_,h4,_⟩
  ·rfl
  ·exact ih vs h4
 ·intro x ih v h
  simp only[aG] at h
  obtain⟨b,o,u,_,h1,_⟩:=h
  exact ih u h1
 ·intro f xs ys ih1 ih2 v h
  simp only[aG] at h
  obtain⟨us,vs,h0,h1,_⟩:=h
  simp only[SV.under,ih1 us h0,ih2 vs h1,Bool.and_self]
 ·intro xs ih v h
  simp only[aG] at h
  obtain⟨vs,h0,_⟩:=h
  exact ih vs h0
 ·intro b clk born kd ks vs ih1 ih2 v h
  simp only[aG] at h
  obtain⟨_,_,ents,_,_,_,h5,h6,_⟩:=h
  simp only[SV.under,ih1 _ h5,ih2 _ h6,Bool.and_self]
 ·intro vs h;rfl
 ·intro x xs ih1 ih2 vs h
  obtain⟨u,us,h1,h2,_⟩:=aD.bC.1 h
  simp only[SV.aB,ih1 u h1,ih2 us h2,Bool.and_self]
theorem aT.closed {c:Cx} (h:aT c):closed c.H:=by
 intro B hB
 obtain⟨id,hid,rfl⟩:=List.getElem_of_mem hB
 have hb:=h.eS id _ (List.getElem?_eq_getElem hid)
 cases hBB:c.H[id] with
 |dead=>rfl
 |obj _=>rfl
 |cells g sz vals=>
  rw[hBB] at hb
  rcases hb with⟨_,rfl⟩|⟨_,_,_,_,_,vs,_,_,_,h4,_⟩
  ·rfl
  ·exact(aG.nc c).2 _ _ h4
 |map kd es=>
  rw[hBB] at hb
  obtain⟨_,ents,_,_,_,h4,_⟩:=hb
  have:∀ {es:List (SV×SV)} {l:List MapEntry},cC c es l→dX c.H.length es=true:=by
   intro es
   induction es with
   |nil=>intro l _;rfl
   |cons p es ih=>
    intro l h
    obtain⟨q,x⟩:=p
    simp only[cC] at h
    obtain⟨e,es',h1,h2,h3,_⟩:=h
    simp only[dX,(aG.nc c).1 _ _ h1,(aG.nc c).1 _ _ h2,ih h3,Bool.and_self]
  exact this h4
theorem aG.il {θ:Nat→Option (Nat×Nat)} {H X:List az} {w:World}:(∀ x v,aG ⟨θ,H++X,w⟩ x v→x.under H.length=true→aG ⟨θ,H,w⟩ x v)∧
 (∀ xs vs,aD ⟨θ,H++X,w⟩ xs vs→SV.aB H.length xs=true→aD ⟨θ,H,w⟩ xs vs):=by
 have hget:∀ id:Nat,decide (id<H.length)=true→(H++X)[id]? =H[id]? :=fun id h=>List.getElem?_append_left (by simpa using h)
 have himm:∀ b,Cx.oY ⟨θ,H++X,w⟩ b→Cx.oY ⟨θ,H,w⟩ b:=fun b ⟨h1,h2⟩=>⟨h1,fun⟨id,o,⟨B,hB,hl⟩,ht⟩=>h2 ⟨id,o,⟨B,(by
  have hlt:=(List.getElem?_eq_some_iff.1 hB).1
  show(H++X)[id]? =some B
  rw[List.getElem?_append_left hlt];exact hB),hl⟩,ht⟩⟩
 apply SV.both
 ·intro x h1 h2 h3 h4 h5 h6 v h hb
  cases x with
  |agg fs=>exact absurd rfl (h1 fs)
  |list n xs=>exact absurd rfl (h2 n xs)
  |iR y=>exact absurd rfl (h3 y)
  |fn f a b=>exact absurd rfl (h4 f a b)
  |tuple xs=>exact absurd rfl (h5 xs)
  |fI b clk born kd ks vs=>exact absurd rfl (h6 b clk born kd ks vs)
  |ptr id g i off=>simp only[aG,hget id hb] at h ⊢;exact h
  |sl id g off len=>simp only[aG,hget id hb] at h ⊢;exact h
  |map id=>simp only[aG,hget id hb] at h ⊢;exact h
  |it id=>simp only[aG,hget id hb] at h ⊢;exact h
  |_=>exact h
 ·intro fs ih v h hb
  simp only[aG] at h ⊢
  obtain⟨vs,h1,h2⟩:=h
  exact⟨vs,ih vs h1 hb,h2⟩
 ·intro sz xs ih v h hb
  simp only[aG] at h ⊢
  obtain⟨a,cap,h0,h1,h2,h3⟩:=h
  refine⟨a,cap,h0,h1,h2,?_⟩
  rcases h3 with h3|⟨b,o,vs,h3,h4,h5,h6,h7⟩
  ·exact .inl h3
  ·exact .inr ⟨b,o,vs,h3,ih vs h4 hb,h5,h6,himm b h7⟩
 ·intro x ih v h hb
  simp only[aG] at h ⊢
  obtain⟨b,o,u,h0,h1,h2,h3,h4⟩:=h
  exact⟨b,o,u,h0,ih u h1 hb,h2,h3,himm b h4⟩
 ·intro f xs ys ih1 ih2 v h hb
  simp only[SV.under,Bool.and_eq_true] at hb
  simp only[aG] at h ⊢
  obtain⟨us,vs,h0,h1,h2⟩:=h
  exact⟨us,vs,ih1 us h0 hb.1,ih2 vs h1 hb.2,h2⟩
 ·intro xs ih v h hb
  simp only[aG] at h ⊢
  obtain⟨vs,h0,h1⟩:=h
  exact⟨vs,ih vs h0 hb,h1⟩
 ·intro b clk born kd ks vs ih1 ih2 v h hb
  simp only[SV.under,Bool.and_eq_true] at hb
  simp only[aG] at h ⊢
  obtain⟨h0,h1,ents,h2,h3,h4,h5,h6,h7⟩:=h
  exact⟨h0,himm b h1,ents,h2,h3,h4,ih1 _ h5 hb.1,ih2 _ h6 hb.2,h7⟩
 ·intro vs h _;simpa [aD] using h
 ·intro x xs ih1 ih2 vs h hb
  simp only[SV.aB,Bool.and_eq_true] at hb
  obtain⟨u,us,h1,h2,h3⟩:=aD.bC.1 h
  exact aD.bC.2 ⟨u,us,ih1 u h1 hb.1,ih2 us h2 hb.2,h3⟩
theorem Cx.cut {θ:Nat→Option (Nat×Nat)} {H X:List az} {w:World} (hc:aT ⟨θ,H++X,w⟩) (hcl:closed H):aT ⟨θ,H,w⟩∧∀ C:Cx,C.H.length≤H.length→Grow C ⟨θ,H++X,w⟩→Grow C ⟨θ,H,w⟩:=by
 have hget:∀ (id:Nat) (B:az),H[id]? =some B→(H++X)[id]? =some B:=fun id B h=>by
  rw[List.getElem?_append_left (List.getElem?_eq_some_iff.1 h).1];exact h
 refine⟨⟨fun id B hB=>?_,fun i j b o o' ⟨Bi,h1,h2⟩ ⟨Bj,h3,h4⟩ h5 h6=>hc.inj i j b o o' ⟨Bi,hget i Bi h1,h2⟩ ⟨Bj,hget j Bj h3,h4⟩ h5 h6⟩,fun C hC hg=>?_⟩
 ·have hb:=hc.eS id B (hget id B hB)
  have hbel:=hcl B (List.mem_of_getElem? hB)
  cases B with
  |dead=>trivial
  |obj o=>exact hb
  |cells g sz vals=>
   rcases hb with hb|⟨b,o,cs,T,fr,vs,h1,h2,h3,h4,h5,h6⟩
   ·exact .inl hb
   ·exact .inr ⟨b,o,cs,T,fr,vs,h1,h2,h3,aG.il.2 _ _ h4 hbel,h5,h6⟩
  |map kd es=>
   obtain⟨b,ents,clk,h1,h2,h3,h4⟩:=hb
   have hE:∀ {es:List (SV×SV)} {l:List MapEntry},cC ⟨θ,H++X,w⟩ es l→dX H.length es=true→cC ⟨θ,H,w⟩ es l:=by
    intro es
    induction es with
    |nil=>intro l h _;exact h
    |cons p es ih=>
     intro l h hb
     obtain⟨q,x⟩:=p
     simp only[cC] at h ⊢
     simp only[dX,Bool.and_eq_true] at hb
     obtain⟨e,es',a1,a2,a3,a4⟩:=h
     exact⟨e,es',aG.il.1 _ _ a1 hb.1.1,aG.il.1 _ _ a2 hb.1.2,ih a3 hb.2,a4⟩
   exact⟨b,ents,clk,h1,h2,hE h3 hbel,h4⟩
 ·refine⟨hg.os,hg.tape,hg.output,hg.size,hg.Bo,hg.shape,fun id B hB=>?_,fun id b o hn hl ht=>?_⟩
  ·obtain⟨B',h1,h2⟩:=hg.ids id B hB
   have hlt:id<H.length:=Nat.lt_of_lt_of_le (List.getElem?_eq_some_iff.1 hB).1 hC
   have h1':(H++X)[id]? =some B':=h1
   rw[List.getElem?_append_left hlt] at h1'
   exact⟨B',h1',h2⟩
  ·obtain⟨B,h1,h2⟩:=hl
   exact hg.new id b o hn ⟨B,hget id B h1,h2⟩ ht
section
variable {P:Program} {G:Gl} {T:aE} {own:List Nat} {nt B:Nat} {ρ:Option Nat} {C:Cx}
def Wk (G:Gl) (nt:Nat) (C:Cx) (s s2:St):Prop:=
 ∀ c a,c.H=s.H→Inv G nt C.w.heap.size c s.env a→Grow C c→∃ c',c'.H=s2.H∧c'.w=c.w∧Inv G nt C.w.heap.size c' s2.env a∧Grow C c'
def aw (G:Gl):Prop:=∀ p∈G.l,SV.under 0 p.2=true
theorem SV.cD {n m:Nat} (h:n≤m):(∀ x:SV,x.under n=true→x.under m=true)∧(∀ xs:List SV,SV.aB n xs=true→SV.aB m xs=true):=by
 apply SV.both
 ·intro x h1 h2 h3 h4 h5 h6 hb
  cases x with
  |agg fs=>exact absurd rfl (h1 fs)
  |list n xs=>exact absurd rfl (h2 n xs)
  |iR y=>exact absurd rfl (h3 y)
  |fn f a b=>exact absurd rfl (h4 f a b)
  |tuple xs=>exact absurd rfl (h5 xs)
  |fI b clk born kd ks vs=>exact absurd rfl (h6 b clk born kd ks vs)
  |ptr id g i off=>simp only[SV.under,decide_eq_true_eq] at hb ⊢;omega
  |sl id g off len=>simp only[SV.under,decide_eq_true_eq] at hb ⊢;omega
  |map id=>simp only[SV.under,decide_eq_true_eq] at hb ⊢;omega
  |it id=>simp only[SV.under,decide_eq_true_eq] at hb ⊢;omega
  |_=>rfl
 ·intro fs ih hb;exact ih hb
 ·intro n xs ih hb;exact ih hb
 ·intro x ih hb;exact ih hb
 ·intro f a b ih1 ih2 hb
  simp only[SV.under,Bool.and_eq_true] at hb ⊢
  exact⟨ih1 hb.1,ih2 hb.2⟩
 ·intro xs ih hb;exact ih hb
 ·intro b clk born kd ks vs ih1 ih2 hb
  simp only[SV.under,Bool.and_eq_true] at hb ⊢
  exact⟨ih1 hb.1,ih2 hb.2⟩
 ·intro _;rfl
 ·intro x xs ih1 ih2 hb
  simp only[SV.aB,Bool.and_eq_true] at hb ⊢
  exact⟨ih1 hb.1,ih2 hb.2⟩
theorem Wk.cut (hG:aw G) {env env2:Env} {H X:List az} (hB:eJ G H.length) (hC:C.H.length≤H.length) (hcl:closed H) (he:∀ t x,look env2 t=some x→look env t=some x∧x.under H.length=true):Wk G nt C ⟨env,H++X⟩ ⟨env2,H⟩:=by
 rintro⟨θ,Hc,w⟩ a hc hi hg
 simp only at hc
 subst hc
 obtain⟨h1,h2⟩:=Cx.cut hi.heap hcl
 refine⟨⟨θ,H,w⟩,rfl,rfl,⟨h1,⟨fun p hp=>aG.il.1 _ _ (hi.iS.1 p hp) ((SV.cD (Nat.zero_le _)).1 _ (hG p hp)),fun C0 h0=>h2 C0 (hB C0 h0) (hi.iS.2 C0 h0)⟩,hi.size,fun t x hx=>?_,?_⟩,h2 C hC hg⟩
 ·obtain⟨e1,e2⟩:=he t x hx
  exact aG.il.1 _ _ (hi.env t x e1) e2
 ·refine⟨fun d hd=>?_,hi.defs.2⟩
  obtain⟨r,q1,q2,q3,q4⟩:=hi.defs.1 d hd
  refine⟨r,q1,q2,⟨q3.1,fun⟨id,o,⟨B,hB,hl⟩,ht⟩=>q3.2 ⟨id,o,⟨B,?_,hl⟩,ht⟩⟩,q4⟩
  show(H++X)[id]? =some B
  rw[List.getElem?_append_left (List.getElem?_eq_some_iff.1 hB).1];exact hB
theorem Wk.env {env env2:Env} {H:List az} (he:∀ t x,look env2 t=some x→look env t=some x):Wk G nt C ⟨env,H⟩ ⟨env2,H⟩:=
 fun c a hc hi hg=>⟨c,hc,rfl,⟨hi.heap,hi.iS,hi.size,fun t x hx=>hi.env t x (he t x hx),hi.defs⟩,hg⟩
theorem ey.wk {cd:Code} {Q:Exit→St→Prop} {s s2:St} (hw:Wk G nt C s s2) (h:ey P G nt ρ C cd Q s2):ey P G nt ρ C cd Q s:=by
 intro c a hc hi hg
 obtain⟨c',e1,e2,e3,e4⟩:=hw c a hc hi hg
 rw[← e2]
 exact h c' a e1 e3 e4
theorem ey.Gj {x:Code} {Q:Exit→St→Prop} {s:St} (I:Nat→St→Prop) (n:Nat) (s0:St) (hs:Wk G nt C s s0) (h0:I n s0)
 (round:∀ n s,I n s→ey P G nt ρ C x (fun e s'=>match e with
  | .normal=>∃ m s2,m<n∧Wk G nt C s' s2∧I m s2
  |e=>Q e s') s):ey P G nt ρ C (.loop x) Q s:=by
 refine ey.wk hs ?_
 intro c a hc hi hg
 refine sX (fun m a' w'=>∃ s' c',I m s'∧c'.H=s'.H∧c'.w=w'∧Inv G nt C.w.heap.size c' s'.env a'∧Grow C c') n ⟨s0,c,h0,hc,rfl,hi,hg⟩ ?_
 rintro j a w ⟨s',c',h1,h2,rfl,h3,h4⟩
 refine wpIn_mono (round j s' h1 c' a h2 h3 h4) ?_
 rintro e a' w' ⟨s2,c2,g1,g2,g3,g4,g5⟩
 cases e with
 |normal=>
  obtain⟨m,s3,hm,hwk,g1⟩:=g1
  obtain⟨c3,e1,e2,e3,e4⟩:=hwk c2 a' g2 g4 g5
  exact⟨m,hm,s3,c3,g1,e1,e2.trans g3,e3,e4⟩
 |_=>exact⟨s2,c2,g1,g2,g3,g4,g5⟩
end
end
end Go.Proofs.YtedejleokilohaaGreatDoor
