/- A part of the proof: SvI, SvJ, SvK, SvL, SvM, SvN. Names and spaces are cut short by program. -/
import Derived.Test.YtjdfoonhnmpkdaaGreatDoorMa
import Derived.Laws.Strings
import Derived.Laws.Concat
import Derived.Laws.StructEq
import Derived.Lib.ConvBytes
import Derived.Laws.BytesArg
import Derived.Laws.AppendOwn
import Derived.MapKept
import Derived.Great.BuildSlice
set_option linter.unusedSimpArgs false
set_option linter.unusedVariables false
set_option maxRecDepth 10000
set_option maxHeartbeats 4000000
namespace Go.Proofs.YtjdfoonhnmpkdaaGreatDoor
open Go
section
section
variable {P:Program} {G:Gl} {T:bX} {own:List Nat} {nt B:Nat} {c:Cx} {env:List (Nat×SV)} {a:Act} {ρ:Option Nat}
variable {o:Oper} {next:Act→World→Prop} {Q:Exit→Act→World→Prop} {k:SV→List av→Prop}
theorem eR {α:Type} [DecidableEq α] [BEq α] [LawfulBEq α] (x y:α):(x==y)=decide (x=y):=by
 by_cases h:x=y<;>simp[h]
theorem toList_mk (s:List UInt8):(ByteArray.mk ⟨s⟩).toList=s:=ByteArray.toList_eq _
theorem GV {k:IntKind} {x y:Int} (h1:k.min≤x∧x≤k.max):k.min≤x.tmod y∧x.tmod y≤k.max:=by
 have hm:k.min≤0∧0≤k.max:=by cases k<;>simp[IntKind.min,IntKind.max,IntKind.signed,IntKind.bits]
 rcases Int.le_total 0 x with h|h
 ·have a1:=Int.tmod_nonneg y h
  have a2:x.tmod y≤x:=by
   rw[Int.tmod_eq_emod_of_nonneg h]
   rcases Int.lt_trichotomy y 0 with hy|hy|hy
   ·have:=Int.emod_lt_of_neg x hy
    have:=Int.emod_nonneg x (show y≠0 by omega)
    by_cases hxy:x< -y
    ·have:x % y=x:=by rw[← Int.emod_neg];exact Int.emod_eq_of_lt h hxy
     omega
    ·omega
   ·subst hy;simp
   ·by_cases hxy:x<y
    ·rw[Int.emod_eq_of_lt h hxy];exact Int.le_refl _
    ·have:=Int.emod_lt_of_pos x hy;omega
  omega
 ·have e:x.tmod y= -((-x).tmod y):=by rw[Int.neg_tmod];omega
  have hx:0≤ -x:=by omega
  have a1:=Int.tmod_nonneg y hx
  have a2:(-x).tmod y≤ -x:=by
   rw[Int.tmod_eq_emod_of_nonneg hx]
   rcases Int.lt_trichotomy y 0 with hy|hy|hy
   ·have:=Int.emod_lt_of_neg (-x) hy
    by_cases hxy: -x< -y
    ·have:(-x) % y= -x:=by rw[← Int.emod_neg];exact Int.emod_eq_of_lt hx hxy
     omega
    ·omega
   ·subst hy;simp
   ·by_cases hxy: -x<y
    ·rw[Int.emod_eq_of_lt hx hxy];exact Int.le_refl _
    ·have:=Int.emod_lt_of_pos (-x) hy;omega
  omega
theorem DD {k:IntKind} {x:Int} (h1:k.min≤x∧x≤k.max) (n:Nat):k.min≤x.fdiv (2 ^ n)∧x.fdiv (2 ^ n)≤k.max:=by
 have hm:k.min≤0∧0≤k.max:=by cases k<;>simp[IntKind.min,IntKind.max,IntKind.signed,IntKind.bits]
 have hp:(0:Int)<2 ^ n:=Int.pow_pos (by omega)
 have h1p:(1:Int)≤2 ^ n:=hp
 rw[Int.fdiv_eq_ediv_of_nonneg _ (Int.le_of_lt hp)]
 constructor
 ·rcases Int.le_total 0 x with h|h
  ·have:=Int.ediv_nonneg h (Int.le_of_lt hp);omega
  ·have:x≤x / 2 ^ n:=by
    rw[Int.le_ediv_iff_mul_le hp]
    have:=Int.mul_le_mul_of_nonpos_left h h1p
    omega
   omega
 ·rcases Int.le_total 0 x with h|h
  ·have:=Int.ediv_le_self (2 ^ n) h;omega
  ·have:=Int.ediv_nonpos_of_nonpos_of_neg h hp
   omega
theorem uP {t:Nat} (hT:aI P T) (h:fM T t=1):P.underlying t=some .bool:=by
 unfold fM at h
 split at h<;>first|(rename_i q;exact(hT _ _ q).1)|omega
theorem fX {t:Nat} (hT:aI P T) (h:fM T t=2):∃ e,P.underlying t=some (.slice e):=by
 unfold fM at h
 split at h<;>first|(rename_i q;exact⟨_,(hT _ _ q).1⟩)|omega
theorem n8 {t:Nat} (hT:aI P T) (h:fM T t=3):∃ k e,P.underlying t=some (.map k e):=by
 unfold fM at h
 split at h<;>first|(rename_i q;exact⟨_,_,(hT _ _ q).1⟩)|omega
theorem iT {t:Nat} (hT:aI P T) (h:fM T t=4):∃ e,P.underlying t=some (.pointer e):=by
 unfold fM at h
 split at h<;>first|(rename_i q;exact⟨_,(hT _ _ q).1⟩)|omega
theorem dE {t e:TypeId} (hu:P.underlying t=some (.slice e)) (a:Option Addr) (n c0 n' c':Nat) (w:World):(Op.equal t (.slice a n c0) (.slice none n' c')).run P w= .ok a.isNone w:=by
 have:∀ d:Nat,(Op.equalIn (d+1) t (.slice a n c0) (.slice none n' c')).run P w= .ok a.isNone w:=fun d=>by cases a<;>simp[Op.equalIn,run_underlying hu]
 exact this 9999
theorem gW {t k e:TypeId} (hu:P.underlying t=some (.map k e)) (a:Option Nat) (w:World):(Op.equal t (.map a) (.map none)).run P w= .ok a.isNone w:=by
 have:∀ d:Nat,(Op.equalIn (d+1) t (.map a) (.map none)).run P w= .ok a.isNone w:=fun d=>by cases a<;>simp[Op.equalIn,run_underlying hu]
 exact this 9999
theorem eK {t e:TypeId} (hu:P.underlying t=some (.pointer e)) (a:Option Addr) (w:World):(Op.equal t (.pointer a) (.pointer none)).run P w= .ok a.isNone w:=by
 have:∀ d:Nat,(Op.equalIn (d+1) t (.pointer a) (.pointer none)).run P w= .ok a.isNone w:=fun d=>by cases a<;>simp[Op.equalIn,run_underlying hu]
 exact this 9999
theorem run_equalIn_bool {t:Nat} (hu:P.underlying t=some .bool) (d:Nat) (x y:Bool) (w:World):(Op.equalIn (d+1) t (.bool x) (.bool y)).run P w= .ok (x==y) w:=by
 simp[Op.equalIn,run_underlying hu]
theorem run_equal_bool {t:Nat} (hu:P.underlying t=some .bool) (x y:Bool) (w:World):(Op.equal t (.bool x) (.bool y)).run P w= .ok (x==y) w:=run_equalIn_bool hu 9999 x y w
theorem bD {op:BinOp} {t yt:Nat} {X Y:Operand} (ho:o.op= .binOp op t X Y yt) {v:Value} {w:World} (hr:(binOp op t (a.eval X) (a.eval Y)).run P w= .ok v w) (h1:∀ cs,a.eval X≠ .agg cs) (h2:a.eval X≠ .nilIface):(execOp a.eval o).run P w= .ok (.value v) w:=by
 simp only[execOp,ho]
 have hg:(eqGuard op t X Y (a.eval X) (a.eval Y)).run P w= .ok () w:=by
  unfold eqGuard
  cases op<;>simp<;>(split<;>first|rfl|(rename_i e _;exact absurd e h2)|(rename_i e _;exact absurd e (h1 _)))
 simp[hg,hr]
theorem bz (c:Cx) (b:Bool):aB c (.bool b) (.bool b):=by simp only[aB]
theorem fO (c:Cx) (i:IntKind) (e:Int):aB c (.int i (i.wrap e)) (.int i (i.wrap e)):=by simp only[aB];exact⟨trivial,vZ _ _⟩
theorem Ll {op:BinOp} {t:Nat} {Hb:List av} {tb:Nat} {i j:IntKind} {m n:Int} (rx:i.min≤m∧m≤i.max) {K:SV→Prop} (h:dT Hb tb op (.int i m) (.int j n) K):
 ∃ z u,K z∧aB c z u∧(binOp op t (.int i m) (.int j n)).run P c.w= .ok u c.w:=by
 cases op with
 |shl=>obtain⟨h1,h2⟩:=h;exact⟨_,_,h2,fO c _ _,by simp[binOp,Op.shift,show ¬ n<0 by omega]⟩
 |shr=>obtain⟨h1,h2⟩:=h;exact⟨_,.int i (m.fdiv (2 ^ min n.toNat i.bits)),h2,by simp only[aB];exact⟨trivial,DD rx _⟩,by simp[binOp,Op.shift,show ¬ n<0 by omega]⟩
 |add=>
  simp only[dT] at h
  split at h
  ·rename_i e;subst e;exact⟨_,_,h,fO c _ _,by simp[binOp,Op.intArith]⟩
  ·exact h.elim
 |sub=>
  simp only[dT] at h
  split at h
  ·rename_i e;subst e;exact⟨_,_,h,fO c _ _,by simp[binOp,Op.intArith]⟩
  ·exact h.elim
 |mul=>
  simp only[dT] at h
  split at h
  ·rename_i e;subst e;exact⟨_,_,h,fO c _ _,by simp[binOp,Op.intArith]⟩
  ·exact h.elim
 |quo=>
  simp only[dT] at h
  split at h
  ·rename_i e;subst e;obtain⟨h1,h2⟩:=h;exact⟨_,_,h2,fO c _ _,by simp[binOp,Op.intDiv,h1]⟩
  ·exact h.elim
 |rem=>
  simp only[dT] at h
  split at h
  ·rename_i e;subst e;obtain⟨h1,h2⟩:=h;exact⟨_,.int i (m.tmod n),h2,by simp only[aB];exact⟨trivial,GV rx⟩,by simp[binOp,Op.intDiv,h1]⟩
  ·exact h.elim
 |and=>
  simp only[dT] at h
  split at h
  ·rename_i e;subst e;obtain⟨r,h1,h2⟩:=h;simp only[l6,Option.some.injEq] at h1;subst h1;exact⟨_,_,h2,fO c _ _,by simp[binOp,Op.intBits]⟩
  ·exact h.elim
 |or=>
  simp only[dT] at h
  split at h
  ·rename_i e;subst e;obtain⟨r,h1,h2⟩:=h;simp only[l6,Option.some.injEq] at h1;subst h1;exact⟨_,_,h2,fO c _ _,by simp[binOp,Op.intBits]⟩
  ·exact h.elim
 |xor=>
  simp only[dT] at h
  split at h
  ·rename_i e;subst e;obtain⟨r,h1,h2⟩:=h;simp only[l6,Option.some.injEq] at h1;subst h1;exact⟨_,_,h2,fO c _ _,by simp[binOp,Op.intBits]⟩
  ·exact h.elim
 |andNot=>
  simp only[dT] at h
  split at h
  ·rename_i e;subst e;obtain⟨r,h1,h2⟩:=h;simp only[l6,Option.some.injEq] at h1;subst h1;exact⟨_,_,h2,fO c _ _,by simp[binOp,Op.intBits]⟩
  ·exact h.elim
 |eql=>
  simp only[dT] at h
  split at h
  ·rename_i e;subst e;obtain⟨r,h1,h2⟩:=h;simp only[AQ,Option.some.injEq] at h1;subst h1;exact⟨_,_,h2,bz c _,by simp[binOp,Op.intCmp,bne,eR]⟩
  ·exact h.elim
 |neq=>
  simp only[dT] at h
  split at h
  ·rename_i e;subst e;obtain⟨r,h1,h2⟩:=h;simp only[AQ,Option.some.injEq] at h1;subst h1;exact⟨_,_,h2,bz c _,by simp[binOp,Op.intCmp,bne,eR]⟩
  ·exact h.elim
 |lss=>
  simp only[dT] at h
  split at h
  ·rename_i e;subst e;obtain⟨r,h1,h2⟩:=h;simp only[AQ,Option.some.injEq] at h1;subst h1;exact⟨_,_,h2,bz c _,by simp[binOp,Op.intCmp,bne,eR]⟩
  ·exact h.elim
 |leq=>
  simp only[dT] at h
  split at h
  ·rename_i e;subst e;obtain⟨r,h1,h2⟩:=h;simp only[AQ,Option.some.injEq] at h1;subst h1;exact⟨_,_,h2,bz c _,by simp[binOp,Op.intCmp,bne,eR]⟩
  ·exact h.elim
 |gtr=>
  simp only[dT] at h
  split at h
  ·rename_i e;subst e;obtain⟨r,h1,h2⟩:=h;simp only[AQ,Option.some.injEq] at h1;subst h1;exact⟨_,_,h2,bz c _,by simp[binOp,Op.intCmp,bne,eR]⟩
  ·exact h.elim
 |geq=>
  simp only[dT] at h
  split at h
  ·rename_i e;subst e;obtain⟨r,h1,h2⟩:=h;simp only[AQ,Option.some.injEq] at h1;subst h1;exact⟨_,_,h2,bz c _,by simp[binOp,Op.intCmp,bne,eR]⟩
  ·exact h.elim
theorem Lm {op:BinOp} {t:Nat} {Hb:List av} {tb:Nat} {s r:List UInt8} {K:SV→Prop} (h:dT Hb tb op (.str s) (.str r) K):
 ∃ z u,K z∧aB c z u∧(Op.stringOp op ⟨⟨s⟩⟩ ⟨⟨r⟩⟩).run P c.w= .ok u c.w:=by
 cases op with
 |add=>
  obtain⟨h1,h2⟩:=h
  refine⟨.str (s++r),.string ⟨⟨s++r⟩⟩,h2,by simp only[aB];exact⟨trivial,by simpa using h1⟩,?_⟩
  rw[run_string_add_sum]
  ·rw[show(ByteArray.mk ⟨s⟩++ByteArray.mk ⟨r⟩)=ByteArray.mk ⟨s++r⟩ from ByteArray.ext (by rw[ByteArray.data_append];simp)]
  ·have:(ByteArray.mk ⟨s⟩).size=s.length:=rfl
   have:(ByteArray.mk ⟨r⟩).size=r.length:=rfl
   unfold maxLen at h1;omega
 |eql=>obtain⟨b,h1,h2⟩:=h;simp only[AR,Option.some.injEq] at h1;subst h1;exact⟨_,_,h2,bz c _,by simp[Op.stringOp,toList_mk,eW,eR]⟩
 |neq=>obtain⟨b,h1,h2⟩:=h;simp only[AR,Option.some.injEq] at h1;subst h1;exact⟨_,_,h2,bz c _,by simp[Op.stringOp,toList_mk,eW,eR]⟩
 |lss=>obtain⟨b,h1,h2⟩:=h;simp only[AR,Option.some.injEq] at h1;subst h1;exact⟨_,_,h2,bz c _,by simp[Op.stringOp,toList_mk,eW,eR]⟩
 |leq=>obtain⟨b,h1,h2⟩:=h;simp only[AR,Option.some.injEq] at h1;subst h1;exact⟨_,_,h2,bz c _,by simp[Op.stringOp,toList_mk,eW,eR]⟩
 |gtr=>obtain⟨b,h1,h2⟩:=h;simp only[AR,Option.some.injEq] at h1;subst h1;exact⟨_,_,h2,bz c _,by simp[Op.stringOp,toList_mk,eW,eR]⟩
 |geq=>obtain⟨b,h1,h2⟩:=h;simp only[AR,Option.some.injEq] at h1;subst h1;exact⟨_,_,h2,bz c _,by simp[Op.stringOp,toList_mk,eW,eR]⟩
 |_=>obtain⟨b,h1,h2⟩:=h;cases h1
theorem Il {x y:SV} {b:Bool} (h:wv x y=some b):1≤jR x:=by
 cases x<;>cases y<;>simp[wv] at h<;>simp[jR]
 split<;>omega
theorem Bf (x:SV):jR x<6:=by cases x<;>simp[jR]<;>split<;>omega
theorem ug (T:bX) (t:Nat):1≤Bg T t∧Bg T t<8:=by
 unfold Bg
 split
 ·split<;>omega
 all_goals omega
theorem oP {t:Nat} {d:TypeDesc} (hu:P.underlying t=some d) (hrow:d.isRow=false) {U:Array Value} {off:Nat} {u:Value} (h:U[off]? =some u) (w:World):(part t U off).run P w= .ok u w:=by
 have hag:(isAgg t).run P w= .ok false w:=by
  unfold isAgg
  rw[Sem.run_bind,run_underlying hu w]
  cases d<;>first|rfl|cases hrow
 simp only[part,Sem.run_bind,hag,Result.andThen_ok,Bool.false_eq_true,if_false,h,Sem.run_pure]
theorem Mh (hT:aI P T) {t:Nat} {x y:SV} {u v:Value} {b:Bool} (hx:aB c x u) (hy:aB c y v) (hd:Bg T t=jR x) (h:wv x y=some b) (d:Nat) (w:World):
 (∃ ds,P.underlying t=some ds∧ds.isRow=false)∧(Op.equalIn (d+1) t u v).run P w= .ok b w:=by
 have hp:=ug T t
 clear hp
 have hlt:=Bf x
 unfold Bg at hd
 split at hd
 ·rename_i k _ _ _ hg
  have hu:P.underlying t=some (.int k):=(hT _ _ hg).1
  by_cases hk:k= .i64
  ·subst hk
   rw[if_pos rfl] at hd
   cases x with
   |int i m=>
    simp only[jR] at hd
    split at hd
    ·rename_i hi;subst hi
     cases y with
     |int j n=>
      simp only[wv] at h
      split at h
      ·rename_i hj
       subst hj
       cases h
       simp only[aB] at hx hy
       rw[hx.1,hy.1]
       exact⟨⟨_,hu,rfl⟩,by rw[run_equalIn_int _ _ _ _ _ _ _ hu,eR]⟩
      ·cases h
     |_=>cases h
    ·omega
   |_=>simp[jR] at hd
  ·rw[if_neg hk] at hd;omega
 ·rename_i hg
  have hu:P.underlying t=some .string:=(hT _ _ hg).1
  cases x with
  |str s=>
   cases y with
   |str r=>
    simp only[wv] at h
    cases h
    simp only[aB] at hx hy
    rw[hx.1,hy.1]
    exact⟨⟨_,hu,rfl⟩,by rw[run_equalIn_string _ _ _ _ _ hu,toList_mk,toList_mk,eR]⟩
   |_=>cases h
  |int i m=>simp only[jR] at hd;split at hd<;>omega
  |_=>simp[jR] at hd
 ·rename_i hg
  have hu:P.underlying t=some .bool:=(hT _ _ hg).1
  cases x with
  |bool s=>
   cases y with
   |bool r=>
    simp only[wv] at h
    cases h
    simp only[aB] at hx hy
    rw[hx,hy]
    exact⟨⟨_,hu,rfl⟩,run_equalIn_bool' _ _ _ _ _ hu⟩
   |_=>cases h
  |int i m=>simp only[jR] at hd;split at hd<;>omega
  |_=>simp[jR] at hd
 ·omega
theorem sr (hT:aI P T) {U V:Array Value} (d:Nat) (w:World):∀ (l:List Field) (n:Nat) (xs ys:List SV) (us vs:List Value) (b:Bool),l.map (fun f=>f.offset)=List.range' n l.length→(∀ f∈l,f.name≠ "_")→
 pL T (l.map fun f=>(f.offset,f.type))=dR xs→rm xs ys=some b→ax c xs us→ax c ys vs→(∀ j u,us[j]? =some u→U[n+j]? =some u)→(∀ j u,vs[j]? =some u→V[n+j]? =some u)→
 (Op.eqFields (d+1) U V l).run P w= .ok b w
 |[],n,xs,ys,us,vs,b,h1,h2,h3,h4,h5,h6,h7,h8=>by
  cases xs with
  |nil=>
   cases ys with
   |nil=>simp[rm] at h4;subst h4;simp[Op.eqFields]
   |cons=>cases h4
  |cons x xs=>
   cases ys with
   |nil=>cases h4
   |cons y ys=>
    simp only[rm] at h4
    cases he:wv x y with
    |none=>rw[he] at h4;cases h4
    |some r=>
     simp only[List.map_nil,pL,dR] at h3
     have:=Il he
     omega
 |f::l,n,xs,ys,us,vs,b,h1,h2,h3,h4,h5,h6,h7,h8=>by
  cases xs with
  |nil=>simp only[List.map_cons,pL,dR] at h3;have:=ug T f.type;omega
  |cons x xs=>
   cases ys with
   |nil=>cases h4
   |cons y ys=>
    simp only[rm] at h4
    cases he:wv x y with
    |none=>rw[he] at h4;cases h4
    |some r=>
     rw[he] at h4
     simp only at h4
     cases he2:rm xs ys with
     |none=>rw[he2] at h4;cases h4
     |some r2=>
      rw[he2] at h4
      simp only[Option.some.injEq] at h4
      obtain⟨u,us',hu,hus,rfl⟩:=ax.bg.1 h5
      obtain⟨v,vs',hv,hvs,rfl⟩:=ax.bg.1 h6
      simp only[List.map_cons,pL,dR] at h3
      have q1:=ug T f.type
      have q2:=Bf x
      have hdig:Bg T f.type=jR x:=by omega
      have hcode:pL T (l.map fun f=>(f.offset,f.type))=dR xs:=by omega
      simp only[List.map_cons,List.length_cons,List.range'_succ,List.cons.injEq] at h1
      obtain⟨⟨ds,hds,hrow⟩,heq⟩:=Mh hT hu hv hdig he d w
      have hpu:=oP (P:=P) hds hrow (U:=U) (off:=f.offset) (by rw[h1.1];exact h7 0 u rfl) w
      have hpv:=oP (P:=P) hds hrow (U:=V) (off:=f.offset) (by rw[h1.1];exact h8 0 v rfl) w
      have ih:=sr hT (U:=U) (V:=V) d w l (n+1) xs ys us' vs' r2 h1.2 (fun g hg=>h2 g (List.mem_cons_of_mem _ hg)) hcode he2 hus hvs
       (fun j q hq=>by have:=h7 (j+1) q (by simpa using hq);rwa[Nat.add_assoc,Nat.add_comm 1 j]) (fun j q hq=>by have:=h8 (j+1) q (by simpa using hq);rwa[Nat.add_assoc,Nat.add_comm 1 j])
      simp only[Op.eqFields,if_pos (h2 f (List.mem_cons_self ..)),Sem.run_bind,hpu,hpv,heq,Result.andThen_ok,Sem.run_ite]
      subst h4
      cases r with
      |true=>simpa using ih
      |false=>simp
theorem HB (hT:aI P T) {t:Nat} {xs ys:List SV} {u v:Value} {b:Bool} (hx:aB c (.agg xs) u) (hy:aB c (.agg ys) v) (hk:fM T t=5+dR xs) (h:rm xs ys=some b) (w:World):
 ∃ U V,u= .agg U∧v= .agg V∧P.eqGuardType P.depth t=false∧(Op.equalIn 10000 t (.agg U) (.agg V)).run P w= .ok b w:=by
 obtain⟨us,hus,_,rfl,_,_⟩:=hx.eI
 obtain⟨vs,hvs,_,rfl,_,_⟩:=hy.eI
 unfold fM at hk
 split at hk
 all_goals first
  |omega
  |skip
 rename_i fs _ _ _ hg
 obtain⟨⟨fl,hfl,hfs⟩,hpl⟩:=(hT _ _ hg).1
 obtain⟨⟨p1,p2⟩,fl',hfl',p3,p4⟩:=hpl rfl
 rw[hfl] at hfl'
 cases hfl'
 refine⟨_,_,rfl,rfl,p2,?_⟩
 have hfo:P.fieldsOf t=fl:=by unfold Program.fieldsOf;rw[hfl]
 rw[run_equalIn_struct w 9999 t _ _ (by rw[hfo];exact hfl) p1,hfo]
 exact sr hT 9998 w fl.toList 0 xs ys us vs b (by rw[p3,List.range_eq_range'];simp) p4 (by rw[hfs];omega) h hus hvs (fun j u hj=>by simpa using hj) (fun j u hj=>by simpa using hj)
theorem HP {op:BinOp} {t yt:Nat} {X Y:Operand} (hT:aI P T) (ho:o.op= .binOp op t X Y yt) {x y:SV} (hx:aB c x (a.eval X)) (hy:aB c y (a.eval Y)) {K:SV→Prop} (h:dT c.H (fM T t) op x y K):
 ∃ z u,K z∧aB c z u∧(execOp a.eval o).run P c.w= .ok (.value u) c.w:=by
 cases x with
 |int i m=>
  cases y with
  |int j n=>
   simp only[aB] at hx hy
   obtain⟨z,u,h1,h2,h3⟩:=Ll (P:=P) (c:=c) (t:=t) hx.2 h
   exact⟨z,u,h1,h2,bD ho (by rw[hx.1,hy.1];exact h3) (by rw[hx.1];intro _ e;cases e) (by rw[hx.1];intro e;cases e)⟩
  |_=>exact h.elim
 |str s=>
  cases y with
  |str r=>
   simp only[aB] at hx hy
   obtain⟨z,u,h1,h2,h3⟩:=Lm (P:=P) (c:=c) (t:=t) h
   exact⟨z,u,h1,h2,bD ho (by rw[hx.1,hy.1];simp only[binOp];exact h3) (by rw[hx.1];intro _ e;cases e) (by rw[hx.1];intro e;cases e)⟩
  |_=>exact h.elim
 |bool s=>
  cases y with
  |bool r=>
   simp only[aB] at hx hy
   cases op with
   |eql=>
    obtain⟨h1,h2⟩:=h
    exact⟨_,.bool (s==r),h2,bz c _,bD ho (by rw[hx,hy];simp only[binOp,Sem.run_bind,run_equal_bool (uP hT h1),Result.andThen_ok,Sem.run_pure]) (by rw[hx];intro _ e;cases e) (by rw[hx];intro e;cases e)⟩
   |neq=>
    obtain⟨h1,h2⟩:=h
    exact⟨_,.bool (!(s==r)),h2,bz c _,bD ho (by rw[hx,hy];simp only[binOp,Sem.run_bind,run_equal_bool (uP hT h1),Result.andThen_ok,Sem.run_pure]) (by rw[hx];intro _ e;cases e) (by rw[hx];intro e;cases e)⟩
   |_=>exact h.elim
  |_=>exact h.elim
 |nil=>
  cases y with
  |nil=>
   simp only[aB] at hx hy
   cases op with
   |eql=>obtain⟨h1,h2⟩:=h;obtain⟨e,hu⟩:=fX hT h1;exact⟨_,.bool true,h2,bz c _,bD ho (by rw[hx,hy];simp only[binOp,Sem.run_bind,dE hu,Result.andThen_ok,Sem.run_pure];rfl) (by rw[hx];intro _ e;cases e) (by rw[hx];intro e;cases e)⟩
   |neq=>obtain⟨h1,h2⟩:=h;obtain⟨e,hu⟩:=fX hT h1;exact⟨_,.bool false,h2,bz c _,bD ho (by rw[hx,hy];simp only[binOp,Sem.run_bind,dE hu,Result.andThen_ok,Sem.run_pure];rfl) (by rw[hx];intro _ e;cases e) (by rw[hx];intro e;cases e)⟩
   |_=>exact h.elim
  |_=>exact h.elim
 |list sz xs=>
  cases y with
  |nil=>
   simp only[aB] at hx hy
   obtain⟨a0,cap,hx,h5,h6,h7⟩:=hx
   have hn:a0=none→xs=[]:=fun e=>by
    rcases h7 with h7|⟨b,o',vs,h8,_⟩
    ·exact h7
    ·rw[e] at h8;cases h8
   cases op with
   |eql=>
    obtain⟨h1,h2,h3⟩:=h
    obtain⟨e,hu⟩:=fX hT h1
    refine⟨.bool a0.isNone,.bool a0.isNone,?_,bz c _,bD ho (by rw[hx,hy];simp only[binOp,Sem.run_bind,dE hu,Result.andThen_ok,Sem.run_pure]) (by rw[hx];intro _ e;cases e) (by rw[hx];intro e;cases e)⟩
    cases a0 with
    |none=>exact h2 (hn rfl)
    |some _=>exact h3
   |neq=>
    obtain⟨h1,h2,h3⟩:=h
    obtain⟨e,hu⟩:=fX hT h1
    refine⟨.bool (!a0.isNone),.bool (!a0.isNone),?_,bz c _,bD ho (by rw[hx,hy];simp only[binOp,Sem.run_bind,dE hu,Result.andThen_ok,Sem.run_pure]) (by rw[hx];intro _ e;cases e) (by rw[hx];intro e;cases e)⟩
    cases a0 with
    |none=>exact h2 (hn rfl)
    |some _=>exact h3
   |_=>exact h.elim
  |_=>exact h.elim
 |sl id g off n=>
  cases y with
  |nil=>
   simp only[aB] at hy
   have key:∀ q,cG c.H id g=some q→∃ a0 cap,a.eval X= .slice a0 n cap∧(a0=none→n=0):=fun q hq=>by
    have hb:=cr hq
    simp only[aB,hb] at hx
    rcases hx.2 with h2|⟨_,h2,a0,cap,h3,h4,h5,h6⟩
    ·omega
    ·refine⟨a0,cap,h3,fun e=>?_⟩
     rcases h6 with h6|⟨b,o',cs,Ty,fr,h6,h7,_⟩
     ·omega
     ·rw[e] at h7;cases h7
   cases op with
   |eql=>
    obtain⟨q,hq,h1,h2,h3⟩:=h
    obtain⟨a0,cap,hx,hn⟩:=key q hq
    obtain⟨e,hu⟩:=fX hT h1
    refine⟨.bool a0.isNone,.bool a0.isNone,?_,bz c _,bD ho (by rw[hx,hy];simp only[binOp,Sem.run_bind,dE hu,Result.andThen_ok,Sem.run_pure]) (by rw[hx];intro _ e;cases e) (by rw[hx];intro e;cases e)⟩
    cases a0 with
    |none=>exact h2 (hn rfl)
    |some _=>exact h3
   |neq=>
    obtain⟨q,hq,h1,h2,h3⟩:=h
    obtain⟨a0,cap,hx,hn⟩:=key q hq
    obtain⟨e,hu⟩:=fX hT h1
    refine⟨.bool (!a0.isNone),.bool (!a0.isNone),?_,bz c _,bD ho (by rw[hx,hy];simp only[binOp,Sem.run_bind,dE hu,Result.andThen_ok,Sem.run_pure]) (by rw[hx];intro _ e;cases e) (by rw[hx];intro e;cases e)⟩
    cases a0 with
    |none=>exact h2 (hn rfl)
    |some _=>exact h3
   |_=>exact h.elim
  |_=>exact h.elim
 |b9=>
  cases y with
  |b9=>
   simp only[aB] at hx hy
   cases op with
   |eql=>obtain⟨h1,h2⟩:=h;obtain⟨k0,e,hu⟩:=n8 hT h1;exact⟨_,.bool true,h2,bz c _,bD ho (by rw[hx,hy];simp only[binOp,Sem.run_bind,gW hu,Result.andThen_ok,Sem.run_pure];rfl) (by rw[hx];intro _ e;cases e) (by rw[hx];intro e;cases e)⟩
   |neq=>obtain⟨h1,h2⟩:=h;obtain⟨k0,e,hu⟩:=n8 hT h1;exact⟨_,.bool false,h2,bz c _,bD ho (by rw[hx,hy];simp only[binOp,Sem.run_bind,gW hu,Result.andThen_ok,Sem.run_pure];rfl) (by rw[hx];intro _ e;cases e) (by rw[hx];intro e;cases e)⟩
   |_=>exact h.elim
  |_=>exact h.elim
 |map id=>
  cases y with
  |b9=>
   simp only[aB] at hy
   have key:∀ q,kg c.H id=some q→∃ b,a.eval X= .map (some b):=fun q hq=>by
    unfold kg at hq
    split at hq
    ·rename_i hb
     simp only[aB,hb] at hx
     obtain⟨_,b,_,h⟩:=hx
     exact⟨b,h⟩
    ·cases hq
   cases op with
   |eql=>obtain⟨q,hq,h1,h2⟩:=h;obtain⟨b,hx⟩:=key q hq;obtain⟨k0,e,hu⟩:=n8 hT h1;exact⟨_,.bool false,h2,bz c _,bD ho (by rw[hx,hy];simp only[binOp,Sem.run_bind,gW hu,Result.andThen_ok,Sem.run_pure];rfl) (by rw[hx];intro _ e;cases e) (by rw[hx];intro e;cases e)⟩
   |neq=>obtain⟨q,hq,h1,h2⟩:=h;obtain⟨b,hx⟩:=key q hq;obtain⟨k0,e,hu⟩:=n8 hT h1;exact⟨_,.bool true,h2,bz c _,bD ho (by rw[hx,hy];simp only[binOp,Sem.run_bind,gW hu,Result.andThen_ok,Sem.run_pure];rfl) (by rw[hx];intro _ e;cases e) (by rw[hx];intro e;cases e)⟩
   |_=>exact h.elim
  |_=>exact h.elim
 |bt=>
  cases y with
  |bt=>
   simp only[aB] at hx hy
   cases op with
   |eql=>obtain⟨h1,h2⟩:=h;obtain⟨e,hu⟩:=iT hT h1;exact⟨_,.bool true,h2,bz c _,bD ho (by rw[hx,hy];simp only[binOp,Sem.run_bind,eK hu,Result.andThen_ok,Sem.run_pure];rfl) (by rw[hx];intro _ e;cases e) (by rw[hx];intro e;cases e)⟩
   |neq=>obtain⟨h1,h2⟩:=h;obtain⟨e,hu⟩:=iT hT h1;exact⟨_,.bool false,h2,bz c _,bD ho (by rw[hx,hy];simp only[binOp,Sem.run_bind,eK hu,Result.andThen_ok,Sem.run_pure];rfl) (by rw[hx];intro _ e;cases e) (by rw[hx];intro e;cases e)⟩
   |_=>exact h.elim
  |_=>exact h.elim
 |gM x0=>
  cases y with
  |bt=>
   simp only[aB] at hx hy
   obtain⟨b,o',u,hx,_⟩:=hx
   cases op with
   |eql=>obtain⟨h1,h2⟩:=h;obtain⟨e,hu⟩:=iT hT h1;exact⟨_,.bool false,h2,bz c _,bD ho (by rw[hx,hy];simp only[binOp,Sem.run_bind,eK hu,Result.andThen_ok,Sem.run_pure];rfl) (by rw[hx];intro _ e;cases e) (by rw[hx];intro e;cases e)⟩
   |neq=>obtain⟨h1,h2⟩:=h;obtain⟨e,hu⟩:=iT hT h1;exact⟨_,.bool true,h2,bz c _,bD ho (by rw[hx,hy];simp only[binOp,Sem.run_bind,eK hu,Result.andThen_ok,Sem.run_pure];rfl) (by rw[hx];intro _ e;cases e) (by rw[hx];intro e;cases e)⟩
   |_=>exact h.elim
  |_=>exact h.elim
 |ptr id g j off=>
  cases y with
  |bt=>
   simp only[aB] at hy
   have key:∀ q,cG c.H id g=some q→∃ p,a.eval X= .pointer (some p):=fun q hq=>by
    obtain⟨_,b,o',_,h3⟩:=hx.oe (cr hq)
    exact⟨_,h3⟩
   cases op with
   |eql=>obtain⟨q,hq,h1,h2⟩:=h;obtain⟨p,hx⟩:=key q hq;obtain⟨e,hu⟩:=iT hT h1;exact⟨_,.bool false,h2,bz c _,bD ho (by rw[hx,hy];simp only[binOp,Sem.run_bind,eK hu,Result.andThen_ok,Sem.run_pure];rfl) (by rw[hx];intro _ e;cases e) (by rw[hx];intro e;cases e)⟩
   |neq=>obtain⟨q,hq,h1,h2⟩:=h;obtain⟨p,hx⟩:=key q hq;obtain⟨e,hu⟩:=iT hT h1;exact⟨_,.bool true,h2,bz c _,bD ho (by rw[hx,hy];simp only[binOp,Sem.run_bind,eK hu,Result.andThen_ok,Sem.run_pure];rfl) (by rw[hx];intro _ e;cases e) (by rw[hx];intro e;cases e)⟩
   |_=>exact h.elim
  |_=>exact h.elim
 |agg xs=>
  cases y with
  |agg ys=>
   cases op with
   |eql=>
    obtain⟨⟨h1,h2⟩,b,h3,h4⟩:=h
    obtain⟨U,V,hU,hV,hg,he⟩:=HB hT hx hy h1 h3 c.w
    refine⟨_,.bool b,h4,bz c _,?_⟩
    simp only[execOp,ho,hU,hV,Sem.run_bind,run_eqGuard_agg _ _ _ _ _ _ _ hg,Result.andThen_ok,run_eql_struct,he]
    simp
   |neq=>
    obtain⟨⟨h1,h2⟩,b,h3,h4⟩:=h
    obtain⟨U,V,hU,hV,hg,he⟩:=HB hT hx hy h1 h3 c.w
    refine⟨_,.bool (!b),h4,bz c _,?_⟩
    simp only[execOp,ho,hU,hV,Sem.run_bind,run_eqGuard_agg _ _ _ _ _ _ _ hg,Result.andThen_ok,run_neq_struct,he]
    simp
   |_=>exact h.elim
  |_=>exact h.elim
 |_=>exact h.elim
theorem qO {op:BinOp} {t:Nat} {x:Operand} {a b:Value} {z:Value} {w:World} (h:∀ cs,a≠ .agg cs):(eqGuard op t x (.const z) a b).run P w= .ok () w:=by
 unfold eqGuard
 cases op<;>simp<;>(split<;>first|rfl|(exact absurd rfl (h _))|simp)
theorem I3 {op:BinOp} {t yt:Nat} {X Y:Operand} (hT:aI P T) (ho:o.op= .binOp op t X Y yt) (hn:pg Y=true) {x:SV} (hx:aB c x (a.eval X)) {K:SV→Prop} (h:uN (xI T t) op x K):
 ∃ z u,K z∧aB c z u∧(execOp a.eval o).run P c.w= .ok (.value u) c.w:=by
 obtain rfl:Y= .const .nilIface:=by
  unfold pg at hn
  split at hn
  ·rfl
  ·cases hn
 have hif:xI T t=true→∃ m,P.underlying t=some (.interface m):=fun hi=>by
  unfold xI at hi
  split at hi
  ·rename_i q;exact(hT _ _ q).1
  ·cases hi
 have hy:a.eval (.const .nilIface)= .nilIface:=rfl
 unfold uN at h
 split at h
 ·rename_i z
  have hv:(z=true∧a.eval X= .nilIface)∨(z=false∧∃ te pe,a.eval X= .iface te pe):=by
   cases z with
   |true=>simp only[aB] at hx;exact .inl ⟨rfl,hx⟩
   |false=>simp only[aB] at hx;exact .inr ⟨rfl,hx⟩
  have hag:∀ cs,a.eval X≠ .agg cs:=fun cs e=>by
   rcases hv with⟨_,q⟩|⟨_,_,_,q⟩<;>(rw[q] at e;cases e)
  have hg:=qO (P:=P) (op:=op) (t:=t) (x:=X) (b:= .nilIface) (z:= .nilIface) (w:=c.w) hag
  have heq:∀ m,P.underlying t=some (.interface m)→(Op.equal t (a.eval X) .nilIface).run P c.w= .ok z c.w:=fun m hu=>by
   have:∀ d:Nat,(Op.equalIn (d+1) t (a.eval X) .nilIface).run P c.w= .ok z c.w:=fun d=>by
    rcases hv with⟨rfl,q⟩|⟨rfl,_,_,q⟩<;>(rw[q];simp[Op.equalIn,run_underlying hu])
   exact this 9999
  have hb:∀ b':Bool,(binOp op t (a.eval X) .nilIface).run P c.w= .ok (.bool b') c.w→(execOp a.eval o).run P c.w= .ok (.value (.bool b')) c.w:=fun b' hr=>by
   simp only[execOp,ho,hy]
   simp[hg,hr]
  cases op with
  |eql=>
   obtain⟨h1,h2⟩:=h
   obtain⟨m,hu⟩:=hif h1
   refine⟨_,.bool z,h2,bz c _,hb z ?_⟩
   rcases hv with⟨_,q⟩|⟨_,_,_,q⟩<;>(have he:=heq m hu;rw[q] at he ⊢;simp only[binOp,Sem.run_bind,he,Result.andThen_ok,Sem.run_pure])
  |neq=>
   obtain⟨h1,h2⟩:=h
   obtain⟨m,hu⟩:=hif h1
   refine⟨_,.bool (!z),h2,bz c _,hb (!z) ?_⟩
   rcases hv with⟨_,q⟩|⟨_,_,_,q⟩<;>(have he:=heq m hu;rw[q] at he ⊢;simp only[binOp,Sem.run_bind,he,Result.andThen_ok,Sem.run_pure])
  |_=>exact h.elim
 ·exact h.elim
theorem KD {op:BinOp} {t yt:Nat} {x y:Operand} (hT:aI P T) (hi:Inv G nt B c env a) (ho:o.op= .binOp op t x y yt) (h:cH P G T own env c.H o.dst o.type (.binOp op t x y yt) k)
 (hk:∀ x c' u,k x c'.H→aM c'→aB c' x u→Grow c c'→next (a.put o.dst u) c'.w):o.wpIn (FR ρ) 0 P a c.w next Q:=by
 obtain⟨p,h1,q,h2,h3⟩:=h
 obtain⟨z,u,e1,e2,e3⟩:∃ z u,k z c.H∧aB c z u∧(execOp a.eval o).run P c.w= .ok (.value u) c.w:=by
  cases hn:pg y with
  |true=>exact I3 hT ho hn (bR hi h1) (h3.1 hn)
  |false=>exact HP hT ho (bR hi h1) (bR hi h2) (h3.2 hn)
 exact wp_pure hi hk (by rw[ho];intro _ e;cases e) e2 e1 e3
end
end
section
section
variable {P:Program} {G:Gl} {T:bX} {own:List Nat} {nt B:Nat} {c:Cx} {env:List (Nat×SV)} {a:Act} {ρ:Option Nat}
variable {o:Oper} {next:Act→World→Prop} {Q:Exit→Act→World→Prop} {k:SV→List av→Prop}
theorem jb (hi:Inv G nt B c env a) {x:Option Operand} {d n:Int} (h:cp G env x d=some n):(x=none∧n=d)∨∃ y i,x=some y∧a.eval y= .int i n:=by
 cases x with
 |none=>simp only[cp,Option.some.injEq] at h;exact .inl ⟨rfl,h.symm⟩
 |some y=>
  simp only[cp] at h
  split at h
  ·rename_i v hv
   obtain⟨i,rfl⟩:=kD h
   have:=bR hi hv
   simp only[aB] at this
   exact .inr ⟨y,i,rfl,this.1⟩
  ·cases h
theorem vz {isS:Bool} {len cap:Nat} {lo hi:Option Value} {l h:Int} (hlo:(lo=none∧l=0)∨∃ i,lo=some (.int i l)) (hhi:(hi=none∧h=(len:Int))∨∃ i,hi=some (.int i h))
 (h0:0≤l) (h1:l≤h) (h2:h≤(cap:Int)) (w:World):(Instr.sliceBounds isS len cap lo hi none).run P w= .ok (l.toNat,h.toNat,cap) w:=by
 have e1:0≤h∧h≤(cap:Int):=⟨by omega,by omega⟩
 have e2:0≤l∧l≤((h.toNat:Nat):Int):=⟨h0,by omega⟩
 rcases hlo with⟨rfl,rfl⟩|⟨i,rfl⟩<;>rcases hhi with⟨rfl,rfl⟩|⟨j,rfl⟩<;>
  simp[Instr.sliceBounds,Instr.sliceBound,asIntOf,e1,e2]<;>(intro hx;exact absurd hx (by omega))
theorem KH {t:Nat} {x:Operand} {lo hi':Option Operand} (hT:aI P T) (hi:Inv G nt B c env a) (ho:o.op= .slice t x lo hi' none) (h:cH P G T own env c.H o.dst o.type (.slice t x lo hi' none) k)
 (hk:∀ x c' u,k x c'.H→aM c'→aB c' x u→Grow c c'→next (a.put o.dst u) c'.w):o.wpIn (FR ρ) 0 P a c.w next Q:=by
 obtain⟨i,h1,v,h2,n,h3,l,h4,hh,h5,⟨e1,e2,e3⟩,y,h6,h7⟩:=h
 have hv:=bR hi h2
 have hlo:(lo.map a.eval=none∧l=0)∨∃ i,lo.map a.eval=some (.int i l):=by
  rcases jb hi h4 with⟨rfl,rfl⟩|⟨z,i,rfl,hz⟩
  ·exact .inl ⟨rfl,rfl⟩
  ·exact .inr ⟨i,by simp[hz]⟩
 have hhi:(hi'.map a.eval=none∧hh=(n:Int))∨∃ i,hi'.map a.eval=some (.int i hh):=by
  rcases jb hi h5 with⟨rfl,rfl⟩|⟨z,i,rfl,hz⟩
  ·exact .inl ⟨rfl,rfl⟩
  ·exact .inr ⟨i,by simp[hz]⟩
 have hd:∀ c,o.op≠ .defer c:=by rw[ho];intro _ e;cases e
 have hti:=hT t i h1
 split at h7
 ·rename_i e0 he
  obtain⟨e,hel,hs,hz,h7⟩:=h7
  obtain⟨hu,hei⟩:=dI hT hel
  obtain⟨info,i1,i2,_⟩:=eL hei
  have hrun:∀ aa len cap,a.eval x= .slice aa len cap→n=len→hh≤(cap:Int)→(execOp a.eval o).run P c.w= .ok (.value (.slice (if cap=l.toNat then aa else aa.map (·.add (l.toNat*e.2.size))) (hh.toNat - l.toNat) (cap - l.toNat))) c.w:=fun aa len cap hx hn hc=>by
   subst hn
   have hb:=vz (P:=P) (isS:=true) (cap:=cap) hlo hhi e1 e2 hc c.w
   simp[execOp,ho,Instr.sliceAt,run_underlying hu,Instr.slice,hx,hb,sizeOf,typeInfo,i1,i2]
  cases v with
  |nil=>
   simp only[fu,Option.some.injEq] at h3;subst h3
   simp only[ue,Option.some.injEq] at h6;subst h6
   simp only[aB] at hv
   simp only[tU] at e3
   have hl0:l=0:=by omega
   have hh0:hh=0:=by omega
   subst hl0 hh0
   refine wp_pure hi hk hd (u:= .slice none 0 0) (by simp only[aB]) h7 ?_
   simpa using hrun none 0 0 hv rfl (by simp)
  |list sz xs=>
   simp only[fu,Option.some.injEq] at h3;subst h3
   simp only[ue,Option.some.injEq] at h6;subst h6
   simp only[lT,beq_iff_eq] at hz;subst hz
   simp only[aB] at hv
   obtain⟨aa,cap,g1,g2,g3,g4⟩:=hv
   have e3:hh≤(xs.length:Int):=by
    rcases e3 with e3|e3
    ·exact e3
    ·simp only[tU] at e3;omega
   refine wp_pure hi hk hd ?_ h7 (hrun aa _ cap g1 rfl (by omega))
   have hlen:((xs.drop l.toNat).take (hh.toNat - l.toNat)).length=hh.toNat - l.toNat:=by simp;omega
   simp only[aB]
   refine⟨_,cap - l.toNat,by rw[hlen],by rw[hlen];omega,by omega,?_⟩
   by_cases h0:hh.toNat - l.toNat=0
   ·exact .inl (by rw[h0];simp)
   ·rcases g4 with g4|⟨b,o',vs,g4,g5,g6,g7,g8⟩
    ·subst g4;simp at e3;omega
    ·subst g4
     rw[if_neg (by omega)]
     refine .inr ⟨b,o'+l.toNat*e.2.size,(vs.drop l.toNat).take (hh.toNat - l.toNat),by simp[Addr.add_mid],(g5.drop _).take _,fun u hu=>g6 u (List.mem_of_mem_drop (List.mem_of_mem_take hu)),?_,g8⟩
     exact iP (fm g7 (fun u hu=>(g6 u hu).1) _ (by rw[g5.length];omega)) _
  |sl id g off len=>
   simp only[fu,Option.some.injEq] at h3;subst h3
   simp only[ue,Option.some.injEq] at h6;subst h6
   simp only[lT] at hz
   split at hz
   ·rename_i sz vals hb
    simp only[beq_iff_eq] at hz;subst hz
    have hb':=cr hb
    simp only[aB,hb'] at hv
    rcases hv.2 with hv|⟨_,q1,aa,cap,q2,q3,q4,q5⟩
    ·omega
    have hcut:hh≤(cap:Int)∧off+hh.toNat≤vals.length:=by
     rcases e3 with e3|e3
     ·exact⟨by omega,by omega⟩
     ·simp only[tU,hb] at e3
      split at e3
      ·exact⟨by omega,by omega⟩
      ·rename_i hs0
       refine⟨?_,by omega⟩
       by_cases hh0:hh≤0
       ·omega
       rcases q5 with q5|⟨b,o',cs,Ty,fr,q5,q6,q7,q8⟩
       ·omega
       ·rcases hi.heap.dQ id _ hb' with⟨h10,_⟩|⟨b',o2,cs2,Ty2,fr2,us,h10,h11,h12,h13,h14,h15⟩
        ·rw[q5] at h10;cases h10
        ·rw[q5] at h10;cases h10
         rw[q7] at h11;cases h11
         have hus:us.length=vals.length:=h13.length
         have hsz:=fo q7 h15 (by rw[ba (fun u h=>(h14 u h).1),hus];exact Nat.mul_pos (by omega) (by omega))
         rw[ba (fun u h=>(h14 u h).1),hus] at hsz
         have:vals.length*e.2.size≤(off+cap)*e.2.size:=by omega
         have:=Nat.le_of_mul_le_mul_right this (by omega)
         omega
    refine wp_pure hi hk hd ?_ h7 (hrun aa len cap q2 rfl hcut.1)
    simp only[aB,hb']
    refine⟨rfl,.inr ⟨trivial,by omega,_,cap - l.toNat,rfl,by omega,by omega,?_⟩⟩
    by_cases hc0:cap - l.toNat=0
    ·refine .inl ⟨hc0,?_⟩
     rcases Nat.eq_zero_or_pos e.2.size with hs0|hs0
     ·exact .inl hs0
     right
     rcases q5 with q5|⟨b,o',cs,Ty,fr,q5,q6,q7,q8⟩
     ·omega
     ·rcases hi.heap.dQ id _ hb' with⟨h10,hvn⟩|⟨b',o2,cs2,Ty2,fr2,us,h10,h11,h12,h13,h14,h15⟩
      ·rw[hvn];exact Nat.zero_le _
      ·rw[q5] at h10;cases h10
       rw[q7] at h11;cases h11
       by_cases hv0:vals.length=0
       ·omega
       have hus:us.length=vals.length:=h13.length
       have hsz:=fo q7 h15 (by rw[ba (fun u h=>(h14 u h).1),hus];exact Nat.mul_pos (by omega) hs0)
       rw[ba (fun u h=>(h14 u h).1),hus] at hsz
       have:vals.length*e.2.size≤(off+cap)*e.2.size:=by omega
       have:=Nat.le_of_mul_le_mul_right this hs0
       omega
    ·rcases q5 with q5|⟨b,o',cs,Ty,fr,q5,q6,q7,q8⟩
     ·omega
     ·rw[if_neg (by omega)]
      subst q6
      refine .inr ⟨b,o',cs,Ty,fr,q5,by simp[Addr.add_mid,Nat.add_mul,Nat.add_assoc],q7,?_⟩
      rw[← q8]
      congr 2
      omega
   ·cases hz
  |_=>simp[dU] at hs
 ·rename_i he
  have hu:P.underlying t=some .string:=by have:=hti.1;rw[he] at this;exact this
  cases v with
  |str s=>
   simp only[fu,Option.some.injEq] at h3;subst h3
   simp only[ue,Option.some.injEq] at h6;subst h6
   simp only[aB] at hv
   have e3:hh≤(s.length:Int):=by
    rcases e3 with e3|e3
    ·exact e3
    ·simp only[tU] at e3;omega
   have hb:=vz (P:=P) (isS:=false) (cap:=s.length) hlo hhi e1 e2 e3 c.w
   refine wp_pure (u:= .string ⟨⟨(s.drop l.toNat).take (hh.toNat - l.toNat)⟩⟩) hi hk hd (by simp only[aB];exact⟨trivial,by simp;omega⟩) h7 ?_
   have hsz:(ByteArray.mk ⟨s⟩).size=s.length:=rfl
   have hex:(ByteArray.mk ⟨s⟩).extract l.toNat hh.toNat=⟨⟨(s.drop l.toNat).take (hh.toNat - l.toNat)⟩⟩:=by
    apply ByteArray.ext
    simp[List.extract_eq_take_drop]
   simp[execOp,ho,Instr.sliceAt,run_underlying hu,Instr.slice,hv.1,hsz,hb,hex]
  |_=>exact h7.elim
 ·exact h7.elim
theorem zm (hT:aI P T) {e:Nat} (h:BV T e=true):P.underlying e=some (.int .u8):=by
 unfold BV at h
 split at h
 ·rename_i i hi
  have:=(hT _ _ hi).1
  split at h
  ·rename_i hd;rw[hd] at this;exact this
  ·cases h
 ·cases h
theorem Ec (hT:aI P T) {st:Nat} {si:TI} (h0:T.get st=some si) (h:om T si.d=true):∃ e,P.underlying st=some (.slice e)∧P.underlying e=some (.int .u8):=by
 unfold om at h
 have:=(hT _ _ h0).1
 split at h
 ·rename_i e hd
  rw[hd] at this
  exact⟨e,this,zm hT h⟩
 ·cases h
theorem rj (w:World) (e:TypeId) (s:ByteArray):Lib.bytesWorld w e s=w.drew.alloc (.cells (Lib.bytesCells w e s) e ((Lib.bytesCells w e s).size,(Lib.bytesCells w e s).size+1)):=by
 unfold Lib.bytesWorld World.freeze
 rw[if_neg (by omega)]
 have:∀ (A:Array Obj) (x:Obj) (f:Obj→Obj),(A.push x).modify A.size f=A.push (f x):=by
  intro A x f
  apply Array.ext
  ·simp
  ·intro i h1 h2
   simp only[Array.size_modify,Array.size_push] at h1
   rw[Array.getElem_modify]
   rcases Nat.lt_or_ge i A.size with h|h
   ·rw[if_neg (by omega),Array.getElem_push_lt h,Array.getElem_push_lt h]
   ·have:i=A.size:=by omega
    subst this
    simp
 show({ w.drew.alloc (.cells (Lib.bytesCells w e s) e) with heap:=_}:World)=_
 simp only[World.alloc]
 congr 1
 exact this _ _ _
theorem dM {α:Type} {l:List α} {i:Nat} {x:α} (h:l[i]? =some x):l.set i x=l:=by
 apply List.ext_getElem?
 intro j
 rw[List.getElem?_set]
 split
 ·rename_i e
  subst e
  have:=(List.getElem?_eq_some_iff.1 h).1
  simp[this]
  exact((List.getElem?_eq_some_iff.1 h).2).symm
 ·rfl
theorem DE {w:World} {b:Nat} {cs:Array Value} {T:TypeId} {fr:Nat×Nat} (h:w.heap[b]? =some (.cells cs T fr)) (hf:gn cs fr):∃ fr',gn cs fr'∧(w.freeze ⟨b,cs.size,none⟩ 1).heap[b]? =some (.cells cs T fr')∧
 (∀ k,k≠b→(w.freeze ⟨b,cs.size,none⟩ 1).heap[k]? =w.heap[k]?)∧(w.freeze ⟨b,cs.size,none⟩ 1).heap.size=w.heap.size∧(w.freeze ⟨b,cs.size,none⟩ 1).os=w.os∧(w.freeze ⟨b,cs.size,none⟩ 1).tape=w.tape∧(w.freeze ⟨b,cs.size,none⟩ 1).output=w.output:=by
 refine⟨if fr.1==fr.2 then (cs.size,cs.size+1) else (min fr.1 cs.size,max fr.2 (cs.size+1)),?_,?_,?_,?_,?_,?_,?_⟩
 ·right
  split
  ·exact Nat.le_refl _
  ·rename_i e
   rcases hf with hf|hf
   ·simp[hf] at e
   ·simp only;omega
 ·simp[World.freeze,Array.getElem?_modify,h]
 ·intro k hk
  simp[World.freeze,Array.getElem?_modify,Ne.symm hk]
 all_goals simp[World.freeze]
theorem wC (c:Cx) (s:List UInt8):∃ vs,ax c (dN s) vs∧(∀ u∈vs,u.cells.size=1∧cq u)∧cellsOf vs=s.map fun b=>Value.int .u8 b.toNat:=by
 refine⟨s.map fun b=> .int .u8 b.toNat,?_,?_,?_⟩
 ·induction s with
  |nil=>exact ax.bQ
  |cons b s ih=>
   refine ax.bG ?_ ih
   simp only[aB,IntKind.min,IntKind.max,IntKind.signed,IntKind.bits]
   have:=b.toNat_lt
   refine⟨trivial,?_,?_⟩<;>simp<;>omega
 ·intro u hu
  simp only[List.mem_map] at hu
  obtain⟨b,_,rfl⟩:=hu
  exact⟨rfl,fZ rfl⟩
 ·have:∀ l:List UInt8,l.map (fun b=>Value.int .u8 b.toNat)=l.flatMap fun b=>[Value.int .u8 b.toNat]:=by intro l;induction l<;>simp_all
  simp only[cellsOf,List.flatMap_map]
  exact(this s).symm
theorem vP (c:Cx):∀ {xs:List SV} {s:List UInt8} {vs:List Value},strOf xs=some s→ax c xs vs→∃ ns:List Int,vs=ns.map (Value.int .u8)∧s=(ns.map fun n=>UInt8.ofNat n.toNat)∧cellsOf vs=vs∧ns.length=xs.length
 |[],s,vs,h,hr=>by
  simp only[ax] at hr
  subst hr
  cases h
  exact⟨[],rfl,rfl,rfl,rfl⟩
 |x::xs,s,vs,h,hr=>by
  simp only[ax] at hr
  obtain⟨u,us,h1,h2,rfl⟩:=hr
  unfold strOf at h
  split at h
  ·rename_i q;cases q
  ·rename_i n r q
   cases q
   split at h
   ·rename_i s' hs'
    cases h
    obtain⟨ns,e1,e2,e3,e4⟩:=vP c hs' h2
    simp only[aB] at h1
    refine⟨n::ns,by rw[h1.1,e1];rfl,by rw[e2];rfl,?_,by simp[e4]⟩
    have:cellsOf (u::us)=u.cells.toList++cellsOf us:=by simp[cellsOf]
    rw[this,e3,h1.1]
    rfl
   ·cases h
  ·cases h
theorem En {st dt:Nat} {x:Operand} (hT:aI P T) (hi:Inv G nt B c env a) (ho:o.op= .convert st dt x) (h:cH P G T own env c.H o.dst o.type (.convert st dt x) k)
 (hk:∀ x c' u,k x c'.H→aM c'→aB c' x u→Grow c c'→next (a.put o.dst u) c'.w):o.wpIn (FR ρ) 0 P a c.w next Q:=by
 obtain⟨si,h0,i,h1,v,h2,h3⟩:=h
 have hv:=bR hi h2
 have hd:∀ c,o.op≠ .defer c:=by rw[ho];intro _ e;cases e
 have hst:∃ sd,P.underlying st=some sd:=by
  have:=(hT _ _ h0).1
  cases hsd:si.d<;>rw[hsd] at this<;>first|exact⟨_,this⟩|(obtain⟨⟨fl,hu,_⟩,_⟩:=this;exact⟨_,hu⟩)|(obtain⟨m,hu⟩:=this;exact⟨_,hu⟩)|(obtain⟨p,q,r,hu⟩:=this;exact⟨_,hu⟩)
 obtain⟨sd,hsd⟩:=hst
 have hti:=(hT _ _ h1).1
 split at h3
 ·rename_i j i' n he
  rw[he] at hti
  have hu:P.underlying dt=some (.int j):=hti
  simp only[aB] at hv
  refine wp_pure hi hk hd (fO c j n) h3 ?_
  simp[execOp,ho,convert,run_underlying hsd,run_underlying hu,hv.1,Conv.intToInt]
 ·rename_i s he
  rw[he] at hti
  have hu:P.underlying dt=some .string:=hti
  have hv':=hv
  simp only[aB] at hv
  refine wp_pure hi hk hd hv' h3 ?_
  simp[execOp,ho,convert,run_underlying hsd,run_underlying hu,hv.1]
 ·rename_i e id g off len he
  rw[he] at hti
  have hu:P.underlying dt=some (.slice e):=hti
  obtain⟨⟨h4,rfl,hlen⟩,⟨sz,vals⟩,hb,h5,h6⟩:=h3
  have h8:=zm hT h4
  have hb':=cr hb
  have hv0:=hv
  simp only[aB,hb'] at hv
  obtain⟨hone,hv|⟨_,hv1,al,cap,hv2,hv3,hv4,hv5⟩⟩:=hv
  ·omega
  rcases hv5 with⟨hv5,_⟩|⟨b,o',cs,Ty,fr,hv5,rfl,hv6,hv7⟩
  ·omega
  rcases hi.heap.dQ id _ hb' with⟨h9,_⟩|⟨b2,o2,cs2,Ty2,fr2,vs,h9,h10,h11,h12,h13,h14⟩
  ·rw[hv5] at h9;cases h9
  rw[hv5] at h9;cases h9
  rw[hv6] at h10;cases h10
  obtain⟨fr',q1,q2,q3,q4,q5,q6,q7⟩:=DE hv6 h11
  obtain⟨t1,t2⟩:=Cx.oB hi.heap (w':=c.w.freeze ⟨b,cs.size,none⟩ 1) hb' rfl (B':= .cells g sz vals) (c.θ id)
   ⟨g,vals,rfl,Nat.le_refl _,fun _=>⟨rfl,rfl⟩,fun b' o' h'=> .inr ⟨o',h'⟩⟩ (fun k' hk' hno=>q3 k' (fun e=>hno o' (by rw[hv5,e]))) (by rw[q4];exact Nat.le_refl _) q5 q6 q7
   (fun b' cs' T' fr0 hq=>by
    by_cases e:b'=b
    ·subst e
     rw[hv6] at hq;cases hq
     exact⟨cs,fr',q2,rfl⟩
    ·exact⟨cs',fr0,by rw[q3 b' e];exact hq,rfl⟩)
   (fun hg=> .inr ⟨b,o',cs,Ty,fr',vs,by simp[hv5],q2,q1,h12.grow hg,h13,fun j v hj=>by
    have:=h14 j v hj
    rw[jP hv6] at this
    rw[jP q2];exact this⟩)
  have e1:(c.H.set id (.cells g sz vals))=c.H:=dM hb'
  have e2:(fun i=>if i=id then c.θ id else c.θ i)=c.θ:=by
   funext i;split
   ·rename_i e;rw[e]
   ·rfl
  rw[e1,e2] at t1 t2
  have hsh:c.w.shape? b=some (Ty,cs.size):=by unfold World.shape?;rw[hv6]
  refine eQ (u:=a.eval x) hd ?_ (hk _ { θ:=c.θ,H:=c.H,w:=c.w.freeze ⟨b,cs.size,none⟩ 1} _ h6 t2 (hv0.grow t1) t1)
  simp[execOp,ho,hv2,convert,run_underlying hu,run_underlying h8,markStringish,hsh]
 ·rename_i e s he
  rw[he] at hti
  have hu:P.underlying dt=some (.slice e):=hti
  obtain⟨h4,h5⟩:=h3
  have h8:=zm hT h4
  simp only[aB] at hv
  have hsz:(ByteArray.mk ⟨s⟩).size=s.length:=rfl
  have hrun:=Lib.run_convert_string_bytes (P:=P) c.w st dt e ⟨⟨s⟩⟩ hsd hu h8
  rw[rj] at hrun
  obtain⟨vs,q1,q2,q3⟩:=wC c s
  have hle:=grownCap_ge c.w s.length 0 e
  have hcl:(Lib.bytesCells c.w e ⟨⟨s⟩⟩).size=grownCap c.w s.length 0 e:=by
   simp only[Lib.bytesCells,Array.size_append,Array.size_map,Array.size_replicate,hsz]
   show s.length+_=_
   omega
  obtain⟨g1,g2⟩:=fY hi.heap (sz:=1) q1 q2 (Lib.bytesCells c.w e ⟨⟨s⟩⟩) (List.replicate (grownCap c.w s.length 0 e - s.length) (.int .u8 0)) (by
   rw[q3];simp[Lib.bytesCells,hsz]) e ((Lib.bytesCells c.w e ⟨⟨s⟩⟩).size,(Lib.bytesCells c.w e ⟨⟨s⟩⟩).size+1) (.inr (Nat.le_refl _)) (w0:=c.w.drew) rfl rfl rfl rfl
  have hln:(dN s).length=s.length:=by simp[dN]
  refine eQ (u:= .slice (some ⟨c.w.heap.size,0,none⟩) s.length (grownCap c.w s.length 0 e)) hd (by simp only[execOp,ho,hv.1];rw[show(⟨⟨s⟩⟩:ByteArray).size=s.length from rfl] at hrun;simp[hrun]) (hk _ _ _ h5 g2 ?_ g1)
  have:=eZ c 1 (dN s) (some (c.w.heap.size,0)) (c.w.drew.alloc (.cells (Lib.bytesCells c.w e ⟨⟨s⟩⟩) e ((Lib.bytesCells c.w e ⟨⟨s⟩⟩).size,(Lib.bytesCells c.w e ⟨⟨s⟩⟩).size+1))) (a:=some ⟨c.w.heap.size,0,none⟩) (cap:=grownCap c.w s.length 0 e) (by omega) (grownCap_le_maxLen c.w s.length 0 e hv.2) (.inr ⟨c.w.heap.size,_,e,_,rfl,rfl,heap_alloc_new c.w.drew _,by rw[hcl,Nat.mul_one]⟩)
  rwa[hln] at this
 ·rename_i he hne
  rw[he] at hti
  have hu:P.underlying dt=some .string:=hti
  obtain⟨⟨h4,h5⟩,xs,h6,s,h7,h8⟩:=h3
  obtain⟨e,he',h9⟩:=Ec hT h0 h4
  obtain⟨al,cap,vs,r1,r2,r3,r4,r5,r6⟩:=D9 hi.heap hv h6 h5
  obtain⟨ns,n1,n2,n3,n4⟩:=vP c h7 r4
  have hlen:ns.length=xs.length:=n4
  have hs:s=ns.map fun n=>UInt8.ofNat n.toNat:=n2
  refine wp_pure (u:= .string ⟨⟨s⟩⟩) hi hk hd (by simp only[aB];exact⟨trivial,by rw[hs,List.length_map];omega⟩) h8 ?_
  simp only[execOp,ho]
  rw[r1]
  have key:(convert st dt (.slice al xs.length cap)).run P c.w= .ok (.string ⟨⟨s⟩⟩) c.w:=by
   rcases r6 with rfl|⟨b,off,rfl,r7⟩
   ·have:ns=[]:=List.length_eq_zero_iff.1 hlen
    subst this
    rw[hs]
    rw[run_convert_bytes_string c.w st dt e _ _ cap he' h9 hu]
    cases al with
    |none=>simp[Conv.bytesToString,ByteArray.empty,ByteArray.emptyWithCapacity]<;>rfl
    |some al=>simp[Conv.bytesToString,loadCells,ByteArray.empty,ByteArray.emptyWithCapacity]<;>rfl
   ·rw[run_convert_bytes_arg (P:=P) c.w st e he' h9 b off xs.length cap ns hlen (fun i hil=>?_) dt hu]
    ·rw[hs];rfl
    ·have hil':i<ns.length:=by omega
     have:=r7 i (.int .u8 (ns[i])) (by rw[n3,n1];simp[hil'])
     rw[this];simp[List.getD,hil']
  simp[key]
 ·exact h3.elim
end
end
section
section
variable {P:Program} {G:Gl} {T:bX} {own:List Nat} {nt B:Nat} {c:Cx} {env:List (Nat×SV)} {a:Act} {ρ:Option Nat}
variable {o:Oper} {next:Act→World→Prop} {Q:Exit→Act→World→Prop} {k:SV→List av→Prop}
def ph:Option IntKind→TypeDesc
 |some k=> .int k
 |none=> .string
theorem xK {kd:Option IntKind} {x:SV} {v:Value} (h:eU kd x=true) (hr:aB c x v):MapKept.IsKey (ph kd) v∧v.oneCell'=true:=by
 cases kd with
 |some k=>cases x with
  |int i n=>simp only[eU,decide_eq_true_eq] at h;subst h;simp only[aB] at hr;rw[hr.1];exact⟨rfl,rfl⟩
  |_=>cases h
 |none=>cases x with
  |str s=>simp only[aB] at hr;rw[hr.1];exact⟨trivial,rfl⟩
  |_=>cases h
theorem Gz {kd:Option IntKind} {x y:SV} {u v:Value} (hx:eU kd x=true) (hy:eU kd y=true) (hu:aB c x u) (hv:aB c y v):Instr.sameNow (ph kd) u v=some (SV.ey x y)∧(SV.ey x y=true→u=v):=by
 cases kd with
 |some k=>cases x with
  |int i n=>cases y with
   |int j m=>
    simp only[eU,decide_eq_true_eq] at hx hy
    subst hx;subst hy
    simp only[aB] at hu hv
    rw[hu.1,hv.1]
    exact⟨by simp[ph,Instr.sameNow,SV.ey],fun h=>by simp only[SV.ey,beq_iff_eq] at h;rw[h]⟩
   |_=>cases hy
  |_=>cases hx
 |none=>cases x with
  |str s=>cases y with
   |str r=>
    simp only[aB] at hu hv
    rw[hu.1,hv.1]
    refine⟨?_,fun h=>by simp only[SV.ey,beq_iff_eq] at h;rw[h]⟩
    simp only[ph,Instr.sameNow,SV.ey,Option.some.injEq]
    by_cases e:s=r
    ·subst e;rw[(MapKept.bytes_beq _ _).2 rfl];simp
    ·have h1:((ByteArray.mk ⟨s⟩:ByteArray)==ByteArray.mk ⟨r⟩)=false:=by
      cases hb:((ByteArray.mk ⟨s⟩:ByteArray)==ByteArray.mk ⟨r⟩) with
      |false=>rfl
      |true=>exact absurd ((MapKept.bytes_beq _ _).1 hb) (fun h=>e (by cases h;rfl))
     rw[h1];simp[e]
   |_=>cases hy
  |_=>cases hx
theorem zb {kd:Option IntKind} {kx y:SV} {kv uy:Value} (hkx:eU kd kx=true) (hkv:aB c kx kv) (hy:aB c y uy):∀ {es:List (SV×SV)} {ents:List MapEntry},cg c es ents→(∀ p∈es,eU kd p.1=true)→∀ j:Nat,
 (Instr.findNow (ph kd) kv ents j=some none∧bO es kx=none∧cN es kx y=es++[(kx,y)])∨
 (∃ n e x,Instr.findNow (ph kd) kv ents j=some (some (j+n,e.val))∧ents[n]? =some e∧e.key=kv∧bO es kx=some x∧aB c x e.val∧cg c (cN es kx y) (ents.set n { e with key:=kv,val:=uy}))
 |[],ents,h,_,j=>by simp only[cg] at h;subst h;exact .inl ⟨rfl,rfl,rfl⟩
 |(q,x)::es,ents,h,hk,j=>by
  simp only[cg] at h
  obtain⟨e,es',h1,h2,h3,rfl⟩:=h
  have hq:=hk _ (List.mem_cons_self ..)
  obtain⟨k1,k2⟩:=Gz hkx hq hkv h1
  cases hb:SV.ey kx q with
  |true=>
   refine .inr ⟨0,e,x,by simp[Instr.findNow,k1,hb],rfl,(k2 hb).symm,by simp[bO,hb],h2,?_⟩
   simp only[cN,hb,if_true,List.set_cons_zero,cg]
   exact⟨_,es',hkv,hy,h3,rfl⟩
  |false=>
   rcases zb hkx hkv hy h3 (fun p hp=>hk p (List.mem_cons_of_mem _ hp)) (j+1) with⟨a1,a2,a3⟩|⟨n,e',x',a1,a2,a3,a4,a5,a6⟩
   ·exact .inl ⟨by simp[Instr.findNow,k1,hb,a1],by simp[bO,hb,a2],by simp[cN,hb,a3]⟩
   ·refine .inr ⟨n+1,e',x',by simp[Instr.findNow,k1,hb,a1];omega,by simpa using a2,a3,by simp[bO,hb,a4],a5,?_⟩
    simp only[cN,hb,Bool.false_eq_true,if_false,List.set_cons_succ,cg]
    exact⟨e,_,h1,h2,a6,rfl⟩
theorem oK {t:Nat} {p:Option IntKind×TI} (hT:aI P T) (h:dJ T t=some p):∃ kt et,P.underlying t=some (.map kt et)∧bT P et p.2∧P.underlying kt=some (ph p.1):=by
 obtain⟨kt,et,h1,h2,h3⟩:=wA hT h
 refine⟨kt,et,h1,h2,?_⟩
 obtain⟨p1,p2⟩:=p
 cases p1<;>exact h3
theorem cg.zip {c:Cx}:∀ {ks vs:List SV} {l:List MapEntry},ax c ks (l.map (·.key))→ax c vs (l.map (·.val))→cg c (ks.zip vs) l
 |[],vs,l,h,_=>by
  have h1:=h.length
  have:l=[]:=by cases l with
   |nil=>rfl
   |cons e l=>simp at h1
  subst this
  simp[cg]
 |x::ks,[],l,h,h'=>by
  have h1:=h.length
  have h2:=h'.length
  simp only[List.length_map,List.length_cons,List.length_nil] at h1 h2
  omega
 |x::ks,y::vs,[],h,_=>by
  have h1:=h.length
  simp at h1
 |x::ks,y::vs,e::l,h,h'=>by
  obtain⟨u,us,a1,a2,a3⟩:=ax.bg.1 h
  obtain⟨u',us',b1,b2,b3⟩:=ax.bg.1 h'
  simp only[List.map_cons,List.cons.injEq] at a3 b3
  obtain⟨rfl,rfl⟩:=a3
  obtain⟨rfl,rfl⟩:=b3
  simp only[List.zip_cons_cons,cg]
  exact⟨e,l,a1,b1,cg.zip a2 b2,rfl⟩
theorem u7 (hc:aM c) {kd:Option IntKind} {m:SV} {v:Value} (hm:aB c m v) {es:List (SV×SV)} (h:mapOf c.H kd m=some es):
 (v= .map none∧es=[])∨(∃ id b ents clk,m= .map id∧c.H[id]? =some (.map kd es)∧c.θ id=some (b,0)∧v= .map (some b)∧c.w.heap[b]? =some (.map ents clk)∧cg c es ents.toList∧(∀ p∈es,eU kd p.1=true)∧tQ ents.toList clk)∨
 ((∀ id,m≠ .map id)∧∃ b ents clk,v= .map (some b)∧c.w.heap[b]? =some (.map ents clk)∧cg c es ents.toList∧(∀ p∈es,eU kd p.1=true)):=by
 cases m with
 |b9=>simp only[mapOf,Option.some.injEq] at h;simp only[aB] at hm;exact .inl ⟨hm,h.symm⟩
 |map id=>
  simp only[mapOf] at h
  split at h
  ·rename_i kd' es' hb
   split at h
   ·rename_i e;subst e;cases h
    simp only[aB,hb] at hm
    obtain⟨_,b,h1,h2⟩:=hm
    obtain⟨b',ents,clk,h3,h4,h5,h6,h7⟩:=hc.dQ id _ hb
    rw[h1] at h3;cases h3
    exact .inr (.inl ⟨id,b,ents,clk,rfl,hb,h1,h2,h4,h5,h6,h7⟩)
   ·cases h
  ·cases h
 |eC b clk born kd' ks vs=>
  simp only[mapOf] at h
  split at h
  ·rename_i e;subst e;cases h
   simp only[aB] at hm
   obtain⟨h0,h1,ents,h2,h3,h4,h5,h6,h7⟩:=hm
   exact .inr (.inr ⟨(fun id e=>by cases e),b,ents,clk,h0,h2,cg.zip h5 h6,(fun p hp=>h7 p.1 (List.of_mem_zip (a:=p.1) (b:=p.2) hp).1)⟩)
  ·cases h
 |_=>simp[mapOf] at h
theorem Hm {t:Nat} {x y:Operand} {ok:Bool} (hT:aI P T) (hi:Inv G nt B c env a) (ho:o.op= .lookup t x y ok) (h:cH P G T own env c.H o.dst o.type (.lookup t x y ok) k)
 (hk:∀ x c' u,k x c'.H→aM c'→aB c' x u→Grow c c'→next (a.put o.dst u) c'.w):o.wpIn (FR ρ) 0 P a c.w next Q:=by
 obtain⟨p,h1,m,h2,es,h3,kx,h4,h5,h6⟩:=h
 obtain⟨kt,et,u1,u2,u3⟩:=oK hT h1
 have hkey:=bR hi h4
 obtain⟨k1,_⟩:=xK h5 hkey
 obtain⟨_,info,z,i1,i2,i3,i4,i5,i6⟩:=u2
 have hz:=(i5 c).1
 have hzero:∀ w,(zeroValue et).run P w= .ok z w:=fun w=>by simp[zeroValue,typeInfo,i1,i4]
 have hd:∀ c,o.op≠ .defer c:=by rw[ho];intro _ e;cases e
 have fin:∀ (x:SV) (u:Value) (b:Bool),aB c x u→(bO es kx).getD p.2.zero=x→(bO es kx).isSome=b→
  (execOp a.eval o).run P c.w= .ok (.value (if ok then .tuple #[u,.bool b] else u)) c.w→o.wpIn (FR ρ) 0 P a c.w next Q:=fun x u b e1 e2 e3 e4=>by
  rw[e2,e3] at h6
  refine wp_pure hi hk hd ?_ h6 e4
  cases ok with
  |true=>simp only[if_true,aB];exact⟨[u,.bool b],ax.bG e1 (ax.bG (bz c b) ax.bQ),rfl⟩
  |false=>exact e1
 have hfnd:∀ b ents clk,a.eval x= .map (some b)→c.w.heap[b]? =some (.map ents clk)→cg c es ents.toList→(∀ q∈es,eU p.1 q.1=true)→o.wpIn (FR ρ) 0 P a c.w next Q:=fun b ents clk e3 e4 e5 e6=>by
  rcases zb h5 hkey aB.undef e5 e6 0 with⟨a1,a2,_⟩|⟨n,e,x',a1,a2,a3,a4,a5,_⟩
  ·refine fin p.2.zero z false hz (by rw[a2];rfl) (by rw[a2];rfl) ?_
   cases ok<;>simp[execOp,ho,Instr.lookup,run_underlying u1,e3,MapKept.run_getObj_map e4,MapKept.run_checkKey u3 k1,MapKept.run_findKey u3 a1,hzero]
  ·refine fin x' e.val true a5 (by rw[a4];rfl) (by rw[a4];rfl) ?_
   cases ok<;>simp[execOp,ho,Instr.lookup,run_underlying u1,e3,MapKept.run_getObj_map e4,MapKept.run_checkKey u3 k1,MapKept.run_findKey u3 a1,hzero]
 rcases u7 hi.heap (bR hi h2) h3 with⟨e1,rfl⟩|⟨id,b,ents,clk,rfl,e1,e2,e3,e4,e5,e6,e7⟩|⟨_,b,ents,clk,e3,e4,e5,e6⟩
 ·refine fin p.2.zero z false hz rfl rfl ?_
  have hf:(Instr.findKey kt (a.eval y) []).run P c.w= .ok none c.w:=MapKept.run_findKey u3 rfl
  cases ok<;>simp[execOp,ho,Instr.lookup,run_underlying u1,e1,MapKept.run_checkKey u3 k1,hf,hzero]
 ·exact hfnd b ents clk e3 e4 e5 e6
 ·exact hfnd b ents clk e3 e4 e5 e6
theorem cg.snoc {x y:SV} {e:MapEntry} (h1:aB c x e.key) (h2:aB c y e.val):∀ {es:List (SV×SV)} {ents:List MapEntry},cg c es ents→cg c (es++[(x,y)]) (ents++[e])
 |[],ents,h=>by simp only[cg] at h;subst h;simp only[List.nil_append,cg];exact⟨e,[],h1,h2,rfl,rfl⟩
 |(q,z)::es,ents,h=>by
  simp only[cg] at h
  obtain⟨e',es',a1,a2,a3,rfl⟩:=h
  simp only[List.cons_append,cg]
  exact⟨e',_,a1,a2,cg.snoc h1 h2 a3,rfl⟩
theorem vH {kd:Option IntKind} {kx y:SV} (hk:eU kd kx=true):∀ {es:List (SV×SV)},(∀ p∈es,eU kd p.1=true)→∀ p∈cN es kx y,eU kd p.1=true
 |[],_,p,hp=>by simp only[cN,List.mem_singleton] at hp;subst hp;exact hk
 |(q,z)::es,h,p,hp=>by
  simp only[cN] at hp
  split at hp
  ·rcases List.mem_cons.1 hp with rfl|hp
   ·exact hk
   ·exact h p (List.mem_cons_of_mem _ hp)
  ·rcases List.mem_cons.1 hp with rfl|hp
   ·exact h _ (List.mem_cons_self ..)
   ·exact vH hk (fun p hp=>h p (List.mem_cons_of_mem _ hp)) p hp
theorem qY {t:Nat} {x y z:Operand} (hT:aI P T) (hi:Inv G nt B c env a) (ho:o.op= .mapUpdate t x y z∨o.op= .insert t x y z) (h:cH P G T own env c.H o.dst o.type (.mapUpdate t x y z) k)
 (hk:∀ x c' u,k x c'.H→aM c'→aB c' x u→Grow c c'→next (a.put o.dst u) c'.w):o.wpIn (FR ρ) 0 P a c.w next Q:=by
 obtain⟨p,h1,m,h2,h3⟩:=h
 obtain⟨kt,et,u1,u2,u3⟩:=oK hT h1
 have hd:∀ c,o.op≠ .defer c:=by rcases ho with ho|ho<;>(rw[ho];intro _ e;cases e)
 cases m with
 |map id0=>
  obtain⟨es,h3,kx,h4,v,h5,h6,h7⟩:=h3
  have hkey:=bR hi h4
  have hval:=bR hi h5
  obtain⟨k1,_⟩:=xK h6 hkey
  rcases u7 hi.heap (bR hi h2) h3 with⟨e1,rfl⟩|⟨id,b,ents,clk,e0,e1,e2,e3,e4,e5,e6,e7⟩|⟨e0,_⟩
  ·have:=bR hi h2
   simp only[mapOf] at h3
   split at h3
   ·rename_i kd' es' hb
    simp only[aB,hb] at this
    obtain⟨_,b,_,hb2⟩:=this
    rw[e1] at hb2;cases hb2
   ·cases h3
  ·cases e0
   have hb:b<c.w.heap.size:=(Array.getElem?_eq_some_iff.1 e4).1
   have key:∀ ents' clk',cg c (cN es kx v) ents'.toList→tQ ents'.toList clk'→(execOp a.eval o).run P c.w= .ok .skip { c.w with heap:=c.w.heap.setIfInBounds b (.map ents' clk')}→o.wpIn (FR ρ) 0 P a c.w next Q:=fun ents' clk' q1 q2 q3=>by
    have hnew:(c.w.heap.setIfInBounds b (.map ents' clk'))[b]? =some (.map ents' clk'):=by simp[hb]
    obtain⟨g1,g2⟩:=Cx.oB hi.heap (w':={ c.w with heap:=c.w.heap.setIfInBounds b (.map ents' clk')}) e1 rfl (B':= .map p.1 (cN es kx v)) (c.θ id0)
     ⟨⟨_,rfl⟩,rfl⟩ (fun k' hk' hno=>by
      have:k'≠b:=fun e=>hno 0 (by rw[e2,e])
      show(c.w.heap.setIfInBounds b _)[k']? =_
      simp[Ne.symm this]) (by simp) rfl rfl rfl (fun b' cs Ty fr hb'=>by
      refine⟨cs,fr,?_,rfl⟩
      have:b'≠b:=fun e=>by rw[e,e4] at hb';cases hb'
      show(c.w.heap.setIfInBounds b _)[b']? =_
      rw[← hb'];simp[Ne.symm this])
     (fun hg=>⟨b,ents',clk',by simp[e2],hnew,cg.grow hg _ _ q1,vH h6 e6,q2⟩)
    exact KG hd q3 (hk .undef (c.Nu id0 (.map p.1 (cN es kx v)) (c.θ id0) _) undef h7 g2 aB.undef g1)
   rcases zb h6 hkey hval e5 e6 0 with⟨a1,a2,a3⟩|⟨n,e,x',a1,a2,a3,a4,a5,a6⟩
   ·refine key (ents.push { key:=a.eval y,val:=a.eval z,born:=clk}) (clk+1) ?_ ?_ ?_
    ·rw[a3,Array.toList_push]
     exact cg.snoc hkey hval e5
    ·rw[Array.toList_push]
     refine⟨fun q hq=>?_,?_⟩
     ·rcases List.mem_append.1 hq with hq|hq
      ·have:=e7.1 q hq;omega
      ·simp at hq;subst hq;simp
     ·rw[List.map_append,List.nodup_append]
      refine⟨⟨e7.2.1,by simp,fun q hq r hr=>?_⟩,by rw[List.length_append,← e7.2.2.1];rfl,by rw[e7.2.2.2,List.length_append,List.length_singleton,List.range_succ,← e7.2.2.1];rfl⟩
      simp only[List.map_cons,List.map_nil,List.mem_singleton] at hr
      obtain⟨e',he',rfl⟩:=List.mem_map.1 hq
      have:=e7.1 e' he';omega
    ·have hck:=MapKept.run_checkKey (w:=c.w) u3 k1 false 9999
     have hfk:=MapKept.run_findKey (w:=c.w) u3 a1
     have hgo:=MapKept.run_getObj_map (P:=P) e4
     have hso:=MapKept.run_setObj_map (P:=P) (.map (ents.push { key:=a.eval y,val:=a.eval z,born:=clk}) (clk+1)) e4
     rcases ho with ho|ho<;>simp only[execOp,ho,Instr.mapUpdate,e3,Sem.run_bind,run_underlying u1,Result.andThen_ok,hgo,hck,hfk,hso,Sem.run_pure]
   ·have hel:(ents.modify n fun e'=>{ e' with key:=a.eval y,val:=a.eval z}).toList=ents.toList.set n { e with key:=a.eval y,val:=a.eval z}:=by
     apply List.ext_getElem?
     intro j
     rw[Array.getElem?_toList,Array.getElem?_modify,List.getElem?_set]
     by_cases ej:n=j
     ·subst ej
      have:n<ents.toList.length:=(List.getElem?_eq_some_iff.1 a2).1
      rw[if_pos rfl,if_pos rfl,if_pos this,← Array.getElem?_toList,a2];rfl
     ·rw[if_neg ej,if_neg ej,Array.getElem?_toList]
    refine key (ents.modify n fun e'=>{ e' with key:=a.eval y,val:=a.eval z}) clk ?_ ?_ ?_
    ·rw[hel];exact a6
    ·rw[hel]
     have hborn:(ents.toList.set n { e with key:=a.eval y,val:=a.eval z}).map (·.born)=ents.toList.map (·.born):=by
      rw[List.map_set]
      apply List.ext_getElem?
      intro j
      rw[List.getElem?_set]
      by_cases ej:n=j
      ·subst ej
       have:n<(ents.toList.map (·.born)).length:=by rw[List.length_map];exact(List.getElem?_eq_some_iff.1 a2).1
       rw[if_pos rfl,if_pos this,List.getElem?_map,a2];rfl
      ·rw[if_neg ej]
     refine⟨fun q hq=>?_,by rw[hborn,List.length_set];exact e7.2⟩
     rcases List.mem_or_eq_of_mem_set hq with hq|rfl
     ·exact e7.1 q hq
     ·exact e7.1 e (List.mem_of_getElem? a2)
    ·have hn:n<ents.size:=by have:=(List.getElem?_eq_some_iff.1 a2).1;simpa using this
     have hget:ents[n]? =some e:=by rw[← Array.getElem?_toList];exact a2
     simp only[Nat.zero_add] at a1
     have hstay:(Instr.keyThatStays ((ents[n]?.map (·.key)).getD (a.eval y)) (a.eval y)).run P c.w= .ok (a.eval y) c.w:=by
      rw[hget];simp only[Option.map_some,Option.getD_some,a3];exact MapKept.run_keyThatStays k1
     have hck:=MapKept.run_checkKey (w:=c.w) u3 k1 false 9999
     have hfk:=MapKept.run_findKey (w:=c.w) u3 a1
     have hgo:=MapKept.run_getObj_map (P:=P) e4
     have hso:=MapKept.run_setObj_map (P:=P) (.map (ents.modify n fun e'=>{ e' with key:=a.eval y,val:=a.eval z}) clk) e4
     rcases ho with ho|ho<;>simp only[execOp,ho,Instr.mapUpdate,e3,Sem.run_bind,run_underlying u1,Result.andThen_ok,hgo,hck,hfk,hstay,hso,Sem.run_pure]
  ·exact absurd rfl (e0 id0)
 |_=>exact h3.elim
end
end
section
section
variable {P:Program} {G:Gl} {T:bX} {own:List Nat} {nt B:Nat} {c:Cx} {env:List (Nat×SV)} {a:Act} {ρ:Option Nat}
variable {o:Oper} {next:Act→World→Prop} {Q:Exit→Act→World→Prop} {k:SV→List av→Prop}
theorem xt (off:Nat):∀ (l:List Value) (k:Nat) (cs:Array Value),off+k+l.length≤cs.size→
 ((l.zipIdx k).foldl (fun(cs:Array Value) (p:Value×Nat)=>cs.setIfInBounds (off+p.2) p.1) cs).toList=cs.toList.take (off+k)++l++cs.toList.drop (off+k+l.length)
 |[],k,cs,_=>by simp
 |x::l,k,cs,h=>by
  simp only[List.zipIdx_cons,List.foldl_cons]
  rw[xt off l (k+1) (cs.setIfInBounds (off+k) x) (by simp at h ⊢;omega)]
  simp only[Array.toList_setIfInBounds,List.length_cons]
  have hl:off+k<cs.toList.length:=by simp at h ⊢;omega
  rw[List.take_set,List.drop_set_of_lt (by omega)]
  rw[show off+(k+1)=(off+k)+1 by omega,List.take_add_one,List.getElem?_eq_getElem hl]
  simp only[Option.toList_some]
  rw[List.set_append_right _ _ (by simp;omega)]
  have:(cs.toList.take (off+k)).length=off+k:=by simp at hl ⊢;omega
  simp only[this,Nat.sub_self,List.set_cons_zero]
  rw[show off+k+1+l.length=off+k+(l.length+1) by omega]
  simp
theorem IA (off:Nat) (v cs:Array Value) (h:off+v.size≤cs.size):
 (v.zipIdx.foldl (fun(cs:Array Value) (p:Value×Nat)=>cs.setIfInBounds (off+p.2) p.1) cs).toList=cs.toList.take off++v.toList++cs.toList.drop (off+v.size):=by
 rw[← Array.foldl_toList,Array.toList_zipIdx]
 have:=xt off v.toList 0 cs (by simpa using h)
 simpa using this
theorem xh {place:Nat→Option (Nat×Nat)} {cs:Array Value} {j off sz:Nat} {v:Value} {rest:List (Nat×Value)} (hp:place j=some (off,sz)) (h1:v.cells.size=sz) (h2:off+v.cells.size≤cs.size):
 ∃ cs',Instr.fill place cs ((j,v)::rest)=Instr.fill place cs' rest∧cs'.toList=cs.toList.take off++v.cells.toList++cs.toList.drop (off+v.cells.size):=by
 refine⟨_,?_,IA off v.cells cs h2⟩
 simp only[Instr.fill,hp]
 rw[if_neg (by simp;omega)]
def placeOf (T:bX) (d:TD) (j:Nat):Option (Nat×Nat):=
 match d with
 | .struct fs _=>match fs[j]? with
  |some (off,ft)=>(T.get ft).map fun i=>(off,i.size)
  |none=>none
 | .array _ e=>(T.get e).map fun i=>(j*i.size,i.size)
 |_=>none
theorem Gi {i:TI} {x:SV} (h:fits i x=true):x.leaf=true∨x.isAgg=true:=by
 unfold fits at h
 split at h
 ·simp only[Bool.and_eq_true] at h;exact .inr h.1
 ·simp only[Bool.and_eq_true] at h;exact .inl h.1
theorem Ee {fs:List SV} {off:Nat} {y z:SV} (h:nr (.agg fs) off y=some z):∃ gs,z= .agg gs:=by
 unfold nr at h
 split at h
 ·rename_i hc;cases h
  cases y with
  |agg ys=>exact⟨ys,rfl⟩
  |_=>exact absurd hc.2.2.1 (by simp[SV.isAgg])
 ·simp only at h
  split at h
  ·split at h
   ·cases h;exact⟨_,rfl⟩
   ·cases h
  ·split at h
   ·cases h;exact⟨_,rfl⟩
   ·cases h
theorem za (hi:Inv G nt B c env a) {d:TD} {place:Nat→Option (Nat×Nat)} (hpl:∀ j p,placeOf T d j=some p→place j=some p):∀ (parts:List (Nat×Operand)) {ps:List (Nat×SV)} {fs:List SV} {y:SV} {cs:Array Value},
 partsOf T d G env parts=some ps→aB c (.agg fs) (.agg cs)→nc (.agg fs) ps=some y→∃ cells,Instr.fill place cs (parts.map fun p=>(p.1,a.eval p.2))=some cells∧aB c y (.agg cells)
 |[],ps,fs,y,cs,h,hr,hp=>by
  simp only[partsOf,Option.some.injEq] at h;subst h
  simp only[nc,Option.some.injEq] at hp;subst hp
  exact⟨cs,rfl,hr⟩
 |(j,o)::parts,ps,fs,y,cs,h,hr,hp=>by
  simp only[partsOf] at h
  split at h
  ·rename_i off ft hoff
   split at h
   ·rename_i i hti
    split at h
    ·rename_i x hx
     split at h
     ·rename_i hf
      split at h
      ·rename_i l hl
       cases h
       simp only[nc] at hp
       split at hp
       ·rename_i z hz
        have hxr:=bR hi hx
        obtain⟨f1,f2,_,_⟩:=hxr.dS hf
        have hplace:placeOf T d j=some (off,i.size):=by
         unfold placeOf
         cases d with
         |struct fl=>
          simp only at hoff ⊢
          split at hoff
          ·rename_i off' ft' he;cases hoff;(first|rw[he]|skip);simp[hti]
          ·cases hoff
         |array n e=>
          simp only at hoff ⊢
          split at hoff
          ·rename_i i' he;cases hoff;rw[hti] at he;cases he;rw[hti];rfl
          ·cases hoff
         |_=>cases hoff
        obtain⟨u',g1,g2,g3,g4,g5⟩:=yj hr hxr (Gi hf) hz
        obtain⟨cs',e1,e2⟩:=xh (rest:=parts.map fun p=>(p.1,a.eval p.2)) (hpl j _ hplace) f2 g4
        obtain⟨gs,rfl⟩:=Ee hz
        have hu':u'= .agg cs':=by
         obtain⟨vs,_,_,rfl,q4,_⟩:=g1.eI
         have:vs=cs'.toList:=by rw[← q4,g5,e2]
         rw[this]
        rw[hu'] at g1
        obtain⟨cells,k1,k2⟩:=za hi hpl parts hl g1 hp
        exact⟨cells,e1.trans k1,k2⟩
       ·cases hp
      ·cases h
     ·cases h
    ·cases h
   ·cases h
  ·cases h
theorem Ef (hT:aI P T) {fl:List Field}:(∀ f∈fl,(T.get f.type).isSome=true)→∃ places,fl.mapM (fun f=>(P.info? f.type).map fun i=>(f.offset,i.size))=some places∧
 ∀ (j:Nat) (f:Field),fl[j]? =some f→∀ i,T.get f.type=some i→places[j]? =some (f.offset,i.size):=by
 induction fl with
 |nil=>intro _;exact⟨[],rfl,by simp⟩
 |cons f fl ih=>
  intro h
  obtain⟨pl,h1,h2⟩:=ih (fun g hg=>h g (List.mem_cons_of_mem _ hg))
  obtain⟨i,hi⟩:=Option.isSome_iff_exists.1 (h f (List.mem_cons_self ..))
  obtain⟨info,i1,i2,_⟩:=eL (hT _ _ hi)
  refine⟨(f.offset,info.size)::pl,by simp[List.mapM_cons,i1,h1],fun j g hg i' hi'=>?_⟩
  cases j with
  |zero=>simp at hg;subst hg;rw[hi] at hi';cases hi';simp[i2]
  |succ j=>simpa using h2 j g (by simpa using hg) i' hi'
theorem wp_build {t:Nat} {parts:Array (Nat×Operand)} (hT:aI P T) (hi:Inv G nt B c env a) (ho:o.op= .build t parts) (h:cH P G T own env c.H o.dst o.type (.build t parts) k)
 (hk:∀ x c' u,k x c'.H→aM c'→aB c' x u→Grow c c'→next (a.put o.dst u) c'.w):o.wpIn (FR ρ) 0 P a c.w next Q:=by
 obtain⟨i,h1,⟨hkn,hza⟩,ps,h2,v,h3,h4⟩:=h
 obtain⟨hd,info,z,i1,i2,i3,i4,i5,i6⟩:=hT _ _ h1
 have hz:=(i5 c).1
 have hparts:(parts.map fun p=>(p.1,a.eval p.2)).toList=parts.toList.map fun p=>(p.1,a.eval p.2):=by simp
 obtain⟨fs,hfs⟩:∃ fs,i.zero= .agg fs:=by
  cases hzz:i.zero with
  |agg fs=>exact⟨fs,rfl⟩
  |_=>rw[hzz] at hza;cases hza
 rw[hfs] at hz h3
 obtain⟨vs0,_,_,hzv,_,_⟩:=hz.eI
 have hbuilt:∃ cells,P.built t (parts.map fun p=>(p.1,a.eval p.2)).toList=some cells∧aB c v (.agg cells):=by
  rw[hparts]
  have hz':aB c (.agg fs) (.agg z.cells):=by rw[hzv] at hz ⊢;exact hz
  cases hdd:i.d with
  |struct fl0 cmp0=>
   rw[hdd] at hd hkn h2
   obtain⟨⟨fl,hu,hfl⟩,_⟩:=hd
   have hall:∀ f∈fl.toList,(T.get f.type).isSome=true:=fun f hf=>by
    simp only[jU,List.all_eq_true] at hkn
    exact hkn (f.offset,f.type) (by rw[← hfl];exact List.mem_map.2 ⟨f,hf,rfl⟩)
   obtain⟨places,p1,p2⟩:=Ef hT hall
   obtain⟨cells,c1,c2⟩:=za hi (place:=(places.toArray[·]?)) (d:= .struct fl0 cmp0) (fun j p hp=>by
    simp only[placeOf] at hp
    split at hp
    ·rename_i off ft he
     rw[← hfl,List.getElem?_map,Option.map_eq_some_iff] at he
     obtain⟨f,hf,he⟩:=he
     cases he
     simp only[Option.map_eq_some_iff] at hp
     obtain⟨i',hi',rfl⟩:=hp
     simpa using p2 j f hf i' hi'
    ·cases hp) parts.toList h2 hz' h3
   exact⟨cells,by simp only[Program.built,i1,hu,i4,p1];exact c1,c2⟩
  |array n e=>
   rw[hdd] at hd hkn h2
   have hu:P.underlying t=some (.array n e):=hd
   obtain⟨ei,hei⟩:=Option.isSome_iff_exists.1 (show(T.get e).isSome=true from hkn)
   obtain⟨einfo,e1,e2,_⟩:=eL (hT _ _ hei)
   obtain⟨cells,c1,c2⟩:=za hi (place:=fun j=>some (j*einfo.size,einfo.size)) (d:= .array n e) (fun j p hp=>by
    simp only[placeOf,hei,Option.map_some,Option.some.injEq] at hp
    subst hp;rw[e2]) parts.toList h2 hz' h3
   exact⟨cells,by simp only[Program.built,i1,hu,i4,e1];exact c1,c2⟩
  |_=>rw[hdd] at hkn;cases hkn
 obtain⟨cells,c1,c2⟩:=hbuilt
 have hrun:=run_build (P:=P) c.w t _ cells c1
 exact wp_pure hi hk (by rw[ho];intro _ e;cases e) c2 h4 (by simp[execOp,ho,hrun])
theorem jI (z:Value) (hz:0<z.cells.size) (n:Nat):((Array.range (n*z.cells.size)).map (z.cells[· % z.cells.size]!)).toList=cellsOf (List.replicate n z):=by
 have hu:∀ u∈List.replicate n z,u.cells.size=z.cells.size:=fun u hu=>by rw[List.eq_of_mem_replicate hu]
 apply List.ext_getElem?
 intro j
 by_cases hj:j<n*z.cells.size
 ·have hdiv:j / z.cells.size<n:=(Nat.div_lt_iff_lt_mul hz).2 hj
  have hmod:j % z.cells.size<z.cells.size:=Nat.mod_lt _ hz
  have:=mj hu (i:=j / z.cells.size) (u:=z) (by simp[hdiv]) (j:=j % z.cells.size) (x:=z.cells[j % z.cells.size]) (by simp[hmod])
  rw[show j / z.cells.size*z.cells.size+j % z.cells.size=j by rw[Nat.mul_comm];exact Nat.div_add_mod j _] at this
  rw[this]
  simp[hj,hmod]
 ·rw[List.getElem?_eq_none (by simp;omega),List.getElem?_eq_none (by rw[ba hu,List.length_replicate];omega)]
theorem GF {α:Type} (A M B V:List α) {n m:Nat} (h1:A.length=n) (h2:M.length=m):(A++M++B).take n++V++(A++M++B).drop (n+m)=A++(V++B):=by
 subst h1 h2
 rw[← List.length_append,List.drop_left,List.append_assoc A M B,List.take_left,List.append_assoc]
theorem uo (hi:Inv G nt B c env a) {i:TI}:∀ (parts:List (Nat×Operand)) {xs ys:List SV} {vs:List Value} {cs:Array Value},cY i G env xs parts=some ys→ax c xs vs→(∀ u∈vs,u.cells.size=i.size∧cq u)→cs.toList=cellsOf vs→
 ∃ cells us,Instr.fill (fun j=>some (j*i.size,i.size)) cs (parts.map fun p=>(p.1,a.eval p.2))=some cells∧ax c ys us∧(∀ u∈us,u.cells.size=i.size∧cq u)∧cells.toList=cellsOf us
 |[],xs,ys,vs,cs,h,hr,hu,hc=>by
  simp only[cY,Option.some.injEq] at h;subst h
  exact⟨cs,vs,rfl,hr,hu,hc⟩
 |(j,o)::parts,xs,ys,vs,cs,h,hr,hu,hc=>by
  simp only[cY] at h
  split at h
  ·rename_i x hx
   split at h
   ·rename_i hf
    have hxr:=bR hi hx
    obtain⟨f1,f2,_,_⟩:=hxr.dS hf.1
    have hvl:=hr.length
    obtain⟨e1,e2,e3⟩:=yf (l:=vs) (j:=j) (List.getElem?_eq_getElem (by omega)) (a.eval o)
    have hA:(cellsOf (vs.take j)).length=j*i.size:=by rw[ba (fun u h=>(hu u (List.mem_of_mem_take h)).1),e3]
    have hm:(vs[j]'(by omega)).cells.toList.length=i.size:=by rw[Array.length_toList];exact(hu _ (List.getElem_mem _)).1
    have hcs:cs.toList=cellsOf (vs.take j)++(vs[j]'(by omega)).cells.toList++cellsOf (vs.drop (j+1)):=by
     rw[hc];conv=>lhs;rw[e1,bS,ez]
     simp[List.append_assoc]
    have hsz:cs.size=cs.toList.length:=by simp
    obtain⟨cs',g1,g2⟩:=xh (place:=fun j=>some (j*i.size,i.size)) (rest:=parts.map fun p=>(p.1,a.eval p.2)) (j:=j) (cs:=cs) rfl f2 (by
     rw[hsz,hcs,List.length_append,List.length_append,hA,hm];omega)
    have g2':cs'.toList=cellsOf (vs.set j (a.eval o)):=by
     rw[g2,e2,bS,ez,hcs,f2]
     exact GF _ _ _ _ hA hm
    obtain⟨cells,us,k1,k2,k3,k4⟩:=uo hi parts h (hr.set j hxr) (fun u hu'=>by
     rcases List.mem_or_eq_of_mem_set hu' with hu'|rfl
     ·exact hu u hu'
     ·exact⟨f2,f1⟩) g2'
    exact⟨cells,us,g1.trans k1,k2,k3,k4⟩
   ·cases h
  ·cases h
theorem ax.replicate {x:SV} {v:Value} (h:aB c x v):∀ n,ax c (List.replicate n x) (List.replicate n v)
 |0=>ax.bQ
 |n+1=>ax.bG h (ax.replicate h n)
theorem mE {i:TI}:∀ (parts:List (Nat×Operand)) {xs ys:List SV},cY i G env xs parts=some ys→ys.length=xs.length
 |[],xs,ys,h=>by simp only[cY,Option.some.injEq] at h;subst h;rfl
 |(j,o)::parts,xs,ys,h=>by
  simp only[cY] at h
  split at h
  ·split at h
   ·rw[mE parts h];simp
   ·cases h
  ·cases h
theorem wp_buildSlice {t len:Nat} {parts:Array (Nat×Operand)} (hT:aI P T) (hi:Inv G nt B c env a) (ho:o.op= .buildSlice t len parts) (h:cH P G T own env c.H o.dst o.type (.buildSlice t len parts) k)
 (hk:∀ x c' u,k x c'.H→aM c'→aB c' x u→Grow c c'→next (a.put o.dst u) c'.w):o.wpIn (FR ρ) 0 P a c.w next Q:=by
 obtain⟨e,h1,⟨⟨hsm,hs0⟩,hzf⟩,xs,h2,h3⟩:=h
 obtain⟨ht,hei⟩:=dI hT h1
 obtain⟨_,info,z,i1,i2,i3,i4,i5,i6⟩:=hei
 obtain⟨z1,z2⟩:=i5 c
 obtain⟨_,zsz,zag,znag⟩:=z1.dS hzf
 have hd:∀ c,o.op≠ .defer c:=by rw[ho];intro _ e;cases e
 have hl:xs.length=len:=by rw[mE _ h2,List.length_replicate]
 have hpar:(parts.map fun p=>(p.1,a.eval p.2)).toList=parts.toList.map fun p=>(p.1,a.eval p.2):=by simp
 have hrun:∃ cells us,(execOp a.eval o).run P c.w= .ok (.value (.slice (some ⟨c.w.heap.size,0,none⟩) len len)) (c.w.alloc (.cells cells e.1))∧ax c xs us∧(∀ u∈us,u.cells.size=e.2.size∧cq u)∧cells.toList=cellsOf us:=by
  by_cases h0:len*e.2.size=0
  ·by_cases hl0:len=0
   ·subst hl0
    have hx0:xs=[]:=List.eq_nil_of_length_eq_zero hl
    subst hx0
    have hp0:parts.toList=[]:=by
     cases hp:parts.toList with
     |nil=>rfl
     |cons p r=>
      obtain⟨j,q⟩:=p
      rw[hp] at h2
      simp[cY] at h2
      split at h2<;>simp_all
    have hp0':parts= #[]:=by rw[← Array.toList_inj];simpa using hp0
    refine⟨#[],[],?_,ax.bQ,by simp,rfl⟩
    simp[execOp,ho,Instr.buildSlice,run_underlying ht,sizeOf,typeInfo,i1,hp0',Instr.fill,newRow]
    exact congrArg (fun q=>c.w.alloc (Obj.cells q e.1)) (Array.ext' (by simp))
   ·have:e.2.size=0:=by rcases Nat.mul_eq_zero.1 h0 with h|h<;>omega
    omega
  ·have hpos:0<z.cells.size:=by rw[i6];exact Nat.pos_of_ne_zero fun hh=>h0 (by rw[hh,Nat.mul_zero])
   have hzl:=jI z hpos len
   rw[i6] at hzl
   obtain⟨cells,us,k1,k2,k3,k4⟩:=uo hi parts.toList (vs:=List.replicate len z) (cs:=(Array.range (len*e.2.size)).map (z.cells[· % z.cells.size]!)) h2 (ax.replicate z1 len) (fun u hu=>by rw[List.eq_of_mem_replicate hu];exact⟨i6,z2⟩) (by rw[← hzl,i6])
   refine⟨cells,us,?_,k2,k3,k4⟩
   have:=run_buildSlice (P:=P) c.w t e.1 len (parts.map fun p=>(p.1,a.eval p.2)) cells info z ht i1 i4 (by rw[i2];omega) (by rw[i2];exact h0) (by rw[i2,hpar];exact k1)
   simp[execOp,ho,this]
 obtain⟨cells,us,r1,r2,r3,r4⟩:=hrun
 have hnew:(c.w.alloc (.cells cells e.1)).heap[c.w.heap.size]? =some (.cells cells e.1 (0,0)):=heap_alloc_new c.w _
 have hcs:len*e.2.size=cells.size:=by
  have:cells.toList.length=us.length*e.2.size:=by rw[r4,ba (fun u h=>(r3 u h).1)]
  rw[r2.length,hl] at this
  simpa using this.symm
 have hlm:len≤maxLen:=by
  have:len*1≤len*e.2.size:=Nat.mul_le_mul_left _ hs0
  unfold maxLen;omega
 cases hin:(len==0||rC o.dst own) with
 |true=>
  replace h3:=h3.1 hin
  obtain⟨g1,g2⟩:=fY hi.heap r2 r3 cells [] (by simpa using r4) e.1 (0,0) (.inl rfl) (w0:=c.w) rfl rfl rfl rfl
  refine eQ hd r1 (hk _ _ _ h3 g2 ?_ g1)
  have:=eZ c e.2.size xs (some (c.w.heap.size,0)) (c.w.alloc (.cells cells e.1)) (a:=some ⟨c.w.heap.size,0,none⟩) (cap:=len) (by omega) hlm (.inr ⟨c.w.heap.size,cells,e.1,(0,0),rfl,rfl,hnew,hcs⟩)
  rwa[hl] at this
 |false=>
  replace h3:=h3.2 hin
  obtain⟨g1,g2⟩:=Cx.world hi.heap (w':=c.w.alloc (.cells cells e.1)) (fun b hb=>heap_alloc_old c.w _ b hb) (by simp) rfl rfl rfl
  refine eQ hd r1 (hk _ { c with w:=c.w.alloc (.cells cells e.1)} _ h3 g2 ?_ g1)
  simp only[aB]
  refine⟨some ⟨c.w.heap.size,0,none⟩,len,by rw[hl],by omega,hlm,.inr ⟨c.w.heap.size,0,us,rfl,r2.grow g1,r3,fun j v hv=>?_,by simp,?_⟩⟩
  ·rw[jP hnew,Nat.zero_add,← Array.getElem?_toList,r4];exact hv
  ·rintro⟨id,o',⟨B,hB,hBl⟩,hθ⟩
   have:=dX.lt (hi.heap.dQ id B hB) hBl hθ
   omega
theorem Aj {t:Nat} {x y:Operand} (hT:aI P T) (hi:Inv G nt B c env a) (ho:o.op= .makeSlice t x y) (h:cH P G T own env c.H o.dst o.type (.makeSlice t x y) k)
 (hk:∀ x c' u,k x c'.H→aM c'→aB c' x u→Grow c c'→next (a.put o.dst u) c'.w):o.wpIn (FR ρ) 0 P a c.w next Q:=by
 obtain⟨e,h1,xv,h2,n,h3,yv,h4,m,h5,⟨rfl,hn,hb0,hs0,hb⟩,hzf,hkk⟩:=h
 obtain⟨ht,hei⟩:=dI hT h1
 obtain⟨_,info,z,i1,i2,i3,i4,i5,i6⟩:=hei
 obtain⟨z1,z2⟩:=i5 c
 have hd:∀ c,o.op≠ .defer c:=by rw[ho];intro _ e;cases e
 obtain⟨ki,rfl⟩:=kD h3
 obtain⟨kj,rfl⟩:=kD h5
 have hx:=bR hi h2
 have hy:=bR hi h4
 simp only[aB] at hx hy
 have hbig:m.toNat≤70368744177664:=Nat.le_trans (Nat.le_mul_of_pos_right _ hb0) hb
 have hby:(info.bytes:Int)*m≤281474976710656:=by
  rw[i3,show m=(m.toNat:Int) by omega,← Int.natCast_mul,Nat.mul_comm]
  omega
 have hrun:=run_make (P:=P) c.w t e.1 info z ht i1 i4 ki kj m m hn (Int.le_refl _) hby (by omega)
 have hpos:0<z.cells.size:=by rw[i6];exact hs0
 have hzl:=jI z hpos m.toNat
 have hlen:(List.replicate m.toNat e.2.zero).length=m.toNat:=List.length_replicate
 obtain⟨g1,g2⟩:=fY hi.heap (ax.replicate z1 m.toNat) (fun u hu=>by rw[List.eq_of_mem_replicate hu];exact⟨i6,z2⟩) (madeCells z.cells (m.toNat*info.size)) [] (by
  rw[i2,← i6,List.append_nil,← hzl];rfl) e.1 (0,0) (.inl rfl) (w0:=c.w) rfl rfl rfl rfl
 refine eQ (u:= .slice (some ⟨c.w.heap.size,0,none⟩) m.toNat m.toNat) hd (by simp[execOp,ho,hx.1,hy.1,hrun]) (hk _ _ _ hkk g2 ?_ g1)
 have:=eZ c e.2.size (List.replicate m.toNat e.2.zero) (some (c.w.heap.size,0)) (c.w.alloc (.cells (madeCells z.cells (m.toNat*info.size)) e.1)) (a:=some ⟨c.w.heap.size,0,none⟩) (cap:=m.toNat) (by omega) (by unfold maxLen;omega) (.inr ⟨c.w.heap.size,_,e.1,(0,0),rfl,rfl,heap_alloc_new c.w _,by rw[size_madeCells,i2]⟩)
 rwa[hlen] at this
theorem Hn {t:Nat} {x:Operand} {lo:Option Operand} {hi' mx:Operand} (hT:aI P T) (hi:Inv G nt B c env a) (ho:o.op= .slice t x lo (some hi') (some mx)) (h:cH P G T own env c.H o.dst o.type (.slice t x lo (some hi') (some mx)) k)
 (hk:∀ x c' u,k x c'.H→aM c'→aB c' x u→Grow c c'→next (a.put o.dst u) c'.w):o.wpIn (FR ρ) 0 P a c.w next Q:=by
 obtain⟨e,h1,v,h2,n,h3,l,h4,hh,h5,m,h6,⟨e1,e2,e3,e4⟩,hs,hkk⟩:=h
 obtain⟨hu,hei⟩:=dI hT h1
 obtain⟨info,i1,i2,_⟩:=eL hei
 have hv:=bR hi h2
 have hd:∀ c,o.op≠ .defer c:=by rw[ho];intro _ e;cases e
 have hlo:(lo.map a.eval=none∧l=0)∨∃ i,lo.map a.eval=some (.int i l):=by
  rcases jb hi h4 with⟨rfl,rfl⟩|⟨z,i,rfl,hz⟩
  ·exact .inl ⟨rfl,rfl⟩
  ·exact .inr ⟨i,by simp[hz]⟩
 obtain⟨jh,hhi⟩:∃ i,a.eval hi'= .int i hh:=by
  rcases jb hi h5 with⟨hq,_⟩|⟨z,i,hq,hz⟩
  ·cases hq
  ·cases hq;exact⟨i,hz⟩
 obtain⟨jm,hmx⟩:∃ i,a.eval mx= .int i m:=by
  rcases jb hi h6 with⟨hq,_⟩|⟨z,i,hq,hz⟩
  ·cases hq
  ·cases hq;exact⟨i,hz⟩
 have hsl:∃ aa cap,a.eval x= .slice aa n cap∧n≤cap:=by
  cases v with
  |nil=>simp only[fu,Option.some.injEq] at h3;subst h3;simp only[aB] at hv;exact⟨none,0,hv,Nat.le_refl _⟩
  |list sz xs=>simp only[fu,Option.some.injEq] at h3;subst h3;simp only[aB] at hv;obtain⟨aa,cap,g1,g2,_⟩:=hv;exact⟨aa,cap,g1,g2⟩
  |sl id g off len=>
   simp only[fu,Option.some.injEq] at h3;subst h3
   simp only[dU] at hs
   cases hb:cG c.H id g with
   |none=>rw[hb] at hs;cases hs
   |some p=>
    obtain⟨sz,vals⟩:=p
    simp only[aB,cr hb] at hv
    rcases hv.2 with hv|⟨_,_,aa,cap,g1,g2,_⟩
    ·omega
    ·exact⟨aa,cap,g1,g2⟩
  |_=>simp[dU] at hs
 obtain⟨aa,cap,hx,hcap⟩:=hsl
 have hb:(Instr.sliceBounds true n cap (lo.map a.eval) (some (.int jh hh)) (some (.int jm m))).run P c.w= .ok (l.toNat,hh.toNat,m.toNat) c.w:=by
  have q1:0≤m∧m≤(cap:Int):=⟨by omega,by omega⟩
  have q2:0≤hh∧hh≤((m.toNat:Nat):Int):=⟨by omega,by omega⟩
  have q3:0≤l∧l≤((hh.toNat:Nat):Int):=⟨by omega,by omega⟩
  rcases hlo with⟨hl,rfl⟩|⟨i,hl⟩<;>rw[hl]<;>simp only[Instr.sliceBounds,Instr.sliceBound,asIntOf,Sem.run_bind,Sem.run_pure,Result.andThen_ok,q1,q2,q3,and_self,if_true]<;>rfl
 obtain⟨g1,g2⟩:=Cx.fresh hi.heap c.w.heap.size (Nat.le_refl _) 0 none (.inl rfl) .dead (w':=c.w) (fun _ _=>rfl) (Nat.le_refl _) rfl rfl rfl (fun hg=>trivial)
 refine eQ hd (u:= .slice (if m.toNat=l.toNat then aa else aa.map (·.add (l.toNat*e.2.size))) (hh.toNat - l.toNat) (m.toNat - l.toNat)) (w':=c.w) ?_ (hk (.sl c.H.length 0 0 0) (c.add .dead none c.w) _ hkk g2 ?_ g1)
 ·simp[execOp,ho,Instr.sliceAt,run_underlying hu,Instr.slice,hx,hhi,hmx,hb,sizeOf,typeInfo,i1,i2]
 ·simp only[aB,List.getElem?_concat_length]
  exact⟨rfl,trivial⟩
theorem On (hi:Inv G nt B c env a) {t:Nat} {i:TI} (ht:bT P t i) {v:SV} {u:Value} (hv:aB c v u) (hf:n9 c.H i.d v=true) {n:Nat} (hn:fu c.H v=some n) (hm:∀ k e,i.d= .map k e→n≤9223372036854775807) (ty:Nat):
 (Builtin.len_ #[t] ty #[u]).run P c.w= .ok (.int .i64 n) c.w∧aB c (.int .i64 n) (.int .i64 n):=by
 have hd:=ht.1
 have fin:∀ n:Nat,n≤9223372036854775807→aB c (.int .i64 n) (.int .i64 n):=fun n h=>by
  simp only[aB,IntKind.min,IntKind.max,IntKind.signed,IntKind.bits]
  refine⟨trivial,?_,?_⟩<;>simp<;>omega
 cases hdd:i.d with
 |str=>
  rw[hdd] at hf hd
  cases v with
  |str s=>
   simp only[fu,Option.some.injEq] at hn;subst hn
   simp only[aB] at hv
   have hu:P.underlying t=some .string:=hd
   have hsz:(ByteArray.mk ⟨s⟩).size=s.length:=rfl
   exact⟨by simp[Builtin.len_,run_underlying hu,hv.1,goInt,hsz],fin _ (by have:=hv.2;unfold maxLen at this;omega)⟩
  |_=>cases hf
 |slice e=>
  rw[hdd] at hf hd
  have hu:P.underlying t=some (.slice e):=hd
  cases v with
  |nil=>simp only[fu,Option.some.injEq] at hn;subst hn;simp only[aB] at hv;exact⟨by simp[Builtin.len_,run_underlying hu,hv,goInt],fin _ (by omega)⟩
  |list sz xs=>
   simp only[fu,Option.some.injEq] at hn;subst hn
   simp only[aB] at hv
   obtain⟨aa,cap,h1,h2,h3,_⟩:=hv
   exact⟨by simp[Builtin.len_,run_underlying hu,h1,goInt],fin _ (by unfold maxLen at h3;omega)⟩
  |sl id g off len=>
   simp only[fu,Option.some.injEq] at hn;subst hn
   simp only[n9,Option.isSome_iff_exists] at hf
   obtain⟨⟨sz,vals⟩,hb⟩:=hf
   simp only[aB,cr hb] at hv
   rcases hv.2 with hv|⟨_,_,aa,cap,h1,h2,h3,_⟩
   ·omega
   ·exact⟨by simp[Builtin.len_,run_underlying hu,h1,goInt],fin _ (by unfold maxLen at h3;omega)⟩
  |_=>cases hf
 |map kt e=>
  rw[hdd] at hf hd
  have hu:P.underlying t=some (.map kt e):=hd
  cases v with
  |b9=>simp only[fu,Option.some.injEq] at hn;subst hn;simp only[aB] at hv;exact⟨by simp[Builtin.len_,run_underlying hu,hv,goInt],fin _ (by omega)⟩
  |map id=>
   simp only[fu] at hn
   split at hn
   ·rename_i kd es hb
    cases hn
    simp only[aB,hb] at hv
    obtain⟨_,b,h1,h2⟩:=hv
    obtain⟨b',ents,clk,h3,h4,h5,_⟩:=hi.heap.dQ id _ hb
    rw[h1] at h3;cases h3
    have hlen:∀ {es:List (SV×SV)} {l:List MapEntry},cg c es l→l.length=es.length:=by
     intro es
     induction es with
     |nil=>intro l h;simp only[cg] at h;rw[h];rfl
     |cons p es ih=>intro l h;obtain⟨q,x⟩:=p;simp only[cg] at h;obtain⟨e',es',_,_,h3,rfl⟩:=h;simp[ih h3]
    have hle:=hlen h5
    rw[Array.length_toList] at hle
    exact⟨by simp[Builtin.len_,run_underlying hu,h2,MapKept.run_getObj_map h4,goInt,hle],fin _ (hm kt e hdd)⟩
   ·cases hn
  |_=>cases hf
 |_=>rw[hdd] at hf;cases v<;>cases hf
theorem sN {w:World} {b o:Nat} {vs:List Value} (ht:w.there b o vs.length) (h1:∀ v∈vs,v.oneCell'=true):(storeCells ⟨b,o,none⟩ vs).run P w= .ok () (w.setCells b o vs):=by
 have:=run_storeCells_cells (P:=P) b o vs 0 w (fun j hj=>(ht j hj).1) (fun j hj=>(ht j hj).2) h1
 simpa using this
theorem Ls {d s:Operand} {t ts:Nat} (hT:aI P T) (hi:Inv G nt B c env a) (hk:∀ x c' u,k x c'.H→aM c'→aB c' x u→Grow c c'→next (a.put o.dst u) c'.w)
 (ho:o.op= .call { callee:= .builtin .copy,args:=⟨[d,s]⟩,argTypes:=⟨[t,ts]⟩}) {e e':Nat×TI} (h1:elemOf T t=some e) (h2:elemOf T ts=some e') {dv sv:SV} (h3:ev G env d=some dv) (h4:ev G env s=some sv) {ys:List SV} (h5:dU c.H sv=some ys) (h6:lT c.H e.2.size sv=true)
 (h7:match (generalizing:=false) dv with
  | .sl id g off len=>aE (cG c.H id g) fun b=>bY (b.1=e.2.size∧0<e.2.size∧off+len≤b.2.length)
   (k (.int .i64 (min ys.length len:Nat)) (c.H.set id (.cells g e.2.size (b.2.take off++ys.take (min ys.length len)++b.2.drop (off+min ys.length len)))))
  |_=>False):o.wpIn (FR ρ) 0 P a c.w next Q:=by
 have hd:∀ c,o.op≠ .defer c:=by rw[ho];intro _ e;cases e
 obtain⟨ht,hei⟩:=dI hT h1
 obtain⟨hts,_⟩:=dI hT h2
 obtain⟨info,i1,i2,_⟩:=eL hei
 cases dv with
 |sl id g off len=>
  obtain⟨⟨bsz,vals⟩,hb1,⟨hsz,hs0,hoff⟩,hkk⟩:=h7
  simp only at hsz hoff hkk
  subst hsz
  have hb':=cr hb1
  have hdv:=bR hi h3
  have hdv':=hdv
  simp only[aB,hb'] at hdv
  rcases hdv.2 with hq|⟨_,_,aa,cap,hda,hcap,hcapm,hcapd⟩
  ·omega
  obtain⟨sa,scap,vs,q1,q2,q3,q4,q5,q6⟩:=D9 hi.heap (bR hi h4) h5 h6
  have hvl:vs.length=ys.length:=q4.length
  generalize hN:min ys.length len=N at hkk
  have hN1:N≤ys.length:=by omega
  have hN2:N≤len:=by omega
  have hmin:Nat.min ys.length len=N:=hN
  have hrep:aB c (.int .i64 (N:Int)) (goInt N):=by
   simp only[aB,goInt,IntKind.min,IntKind.max,IntKind.signed,IntKind.bits]
   refine⟨trivial,?_,?_⟩<;>simp<;>unfold maxLen at hcapm<;>omega
  by_cases h0:N=0
  ·subst h0
   have hset:c.H.set id (.cells g e.2.size (vals.take off++ys.take 0++vals.drop (off+0)))=c.H:=by
    rw[List.take_zero,mw,vJ hb']
   rw[hset] at hkk
   refine wp_pure (u:=goInt 0) hi hk hd hrep hkk ?_
   have hl:∀ (x:Addr),(loadCells x 0).run P c.w= .ok #[] c.w:=fun x=>by simpa using run_loadCells_list (P:=P) c.w x [] (by simp)
   cases aa<;>cases sa<;>simp[execOp,ho,resolve,invoke,builtin,hda,q1,Builtin.copy_,run_underlying ht,Builtin.lenOf,Builtin.firstCells,sizeOf,typeInfo,i1,hmin,storeCells,hl,goInt]
  ·rcases hcapd with hcapd|⟨b,o1,cs,Ty,fr,e1,e2,e3,e4⟩
   ·omega
   rcases q6 with q6|⟨sb,so,q6,q7⟩
   ·subst q6;simp at hN1;omega
   have hyt:(ys.take N).length=N:=by simp;omega
   have hvt:(vs.take N).length=N:=by simp;omega
   have hcl:(cellsOf (vs.take N)).length=N*e.2.size:=by rw[ba (fun u h=>(q5 u (List.mem_of_mem_take h)).1),hvt]
   have hu:∀ u∈vs.take N,u.cells.size=e.2.size∧cq u:=fun u h=>q5 u (List.mem_of_mem_take h)
   obtain⟨hthere,g1,g2⟩:=v7 hi.heap hb' e1 off (q4.take N) hu (by rw[hyt];omega)
   rw[hyt] at g1 g2
   have hst:=sN (P:=P) hthere (oY fun u h=>(hu u h).2)
   have hld:(loadCells ⟨sb,so,none⟩ (N*e.2.size)).run P c.w= .ok (cellsOf (vs.take N)).toArray c.w:=by
    rw[← hcl]
    exact run_loadCells_list (P:=P) c.w _ _ (fun j v hj=>by
     rw[Addr.add_mid]
     have hpre:cellsOf vs=cellsOf (vs.take N)++cellsOf (vs.drop N):=by rw[← bS,List.take_append_drop]
     exact q7 j v (by rw[hpre,List.getElem?_append_left (List.getElem?_eq_some_iff.1 hj).1];exact hj))
   subst e2 q6
   have hfin:=hk (.int .i64 (N:Int)) _ (goInt N) hkk g2 (hrep.grow g1) g1
   refine eQ hd ?_ hfin
   simp[execOp,ho,resolve,invoke,builtin,hda,q1,Builtin.copy_,run_underlying ht,Builtin.lenOf,Builtin.firstCells,sizeOf,typeInfo,i1,i2,hmin,hld,hst,goInt]
 |_=>exact h7.elim
theorem HZ {x:Operand} {t:Nat} (hT:aI P T) (hi:Inv G nt B c env a) (hk:∀ x c' u,k x c'.H→aM c'→aB c' x u→Grow c c'→next (a.put o.dst u) c'.w)
 (ho:o.op= .call { callee:= .builtin .clear,args:=⟨[x]⟩,argTypes:=⟨[t]⟩}) {e:Nat×TI} (h1:elemOf T t=some e) {xv:SV} (h2:ev G env x=some xv)
 (h3:match (generalizing:=false) xv with
  | .nil=>k (.tuple []) c.H
  | .sl id g off len=>aE (cG c.H id g) fun b=>bY (b.1=e.2.size∧0<e.2.size∧off+len≤b.2.length)
   (k (.tuple []) (c.H.set id (.cells g e.2.size (b.2.take off++List.replicate len e.2.zero++b.2.drop (off+len)))))
  |_=>False):o.wpIn (FR ρ) 0 P a c.w next Q:=by
 have hd:∀ c,o.op≠ .defer c:=by rw[ho];intro _ e;cases e
 obtain⟨ht,hei⟩:=dI hT h1
 obtain⟨_,info,z,i1,i2,i3,i4,i5,i6⟩:=hei
 obtain⟨z1,z2⟩:=i5 c
 have hrep:∀ c,aB c (.tuple []) (.tuple #[]):=fun c=>by simp only[aB];exact⟨[],ax.bQ,rfl⟩
 have hx:=bR hi h2
 cases xv with
 |nil=>
  simp only[aB] at hx
  refine wp_pure hi hk hd (hrep c) h3 ?_
  simp[execOp,ho,resolve,invoke,builtin,hx,Builtin.clear_,run_underlying ht]
 |sl id g off len=>
  obtain⟨⟨bsz,vals⟩,hb1,⟨hsz,hs0,hoff⟩,hkk⟩:=h3
  simp only at hsz hoff hkk
  subst hsz
  have hb':=cr hb1
  simp only[aB,hb'] at hx
  rcases hx.2 with hq|⟨_,_,aa,cap,hda,hcap,hcapm,hcapd⟩
  ·omega
  by_cases h0:len=0
  ·subst h0
   have hset:c.H.set id (.cells g e.2.size (vals.take off++List.replicate 0 e.2.zero++vals.drop (off+0)))=c.H:=by
    rw[List.replicate_zero,mw,vJ hb']
   rw[hset] at hkk
   refine wp_pure hi hk hd (hrep c) hkk ?_
   cases aa<;>simp[execOp,ho,resolve,invoke,builtin,hda,Builtin.clear_,run_underlying ht]
  ·rcases hcapd with hcapd|⟨b,o1,cs,Ty,fr,e1,e2,e3,e4⟩
   ·omega
   have hu:∀ u∈List.replicate len z,u.cells.size=e.2.size∧cq u:=fun u h=>by rw[List.eq_of_mem_replicate h];exact⟨i6,z2⟩
   obtain⟨hthere,g1,g2⟩:=v7 hi.heap hb' e1 off (ax.replicate z1 len) hu (by rw[List.length_replicate];exact hoff)
   rw[List.length_replicate] at g1 g2
   have hst:=sN (P:=P) hthere (oY fun u h=>(hu u h).2)
   have hzl:(Builtin.zeroCells z.cells len).toList=cellsOf (List.replicate len z):=jI z (by rw[i6];exact hs0) len
   subst e2
   have hfin:=hk (.tuple []) _ (.tuple #[]) hkk g2 (hrep _) g1
   refine eQ hd ?_ hfin
   cases len with
   |zero=>exact absurd rfl h0
   |succ len=>simp[execOp,ho,resolve,invoke,builtin,hda,Builtin.clear_,run_underlying ht,zeroValue,typeInfo,i1,i4,hzl,hst]
 |_=>exact h3.elim
theorem Em {b:Builtin} {args:Array Operand} {tys:Array Nat} (hT:aI P T) (hi:Inv G nt B c env a) (ho:o.op= .call { callee:= .builtin b,args,argTypes:=tys}) (h:ee T G env c.H b args.toList tys.toList k)
 (hk:∀ x c' u,k x c'.H→aM c'→aB c' x u→Grow c c'→next (a.put o.dst u) c'.w):o.wpIn (FR ρ) 0 P a c.w next Q:=by
 have hd:∀ c,o.op≠ .defer c:=by rw[ho];intro _ e;cases e
 obtain⟨args⟩:=args
 obtain⟨tys⟩:=tys
 simp only at h
 unfold ee at h
 split at h
 ·rename_i x t
  obtain⟨i,h1,v,h2,h3,n,h4,h5⟩:=h
  have hkn:k (.int .i64 n) c.H∧∀ kk e,i.d= .map kk e→n≤9223372036854775807:=by
   split at h5
   ·rename_i kk e he;exact⟨h5.2,fun _ _ _=>h5.1⟩
   ·rename_i hne;exact⟨h5,fun kk e he=>absurd he (hne kk e)⟩
  obtain⟨r1,r2⟩:=On (P:=P) hi (hT t i h1) (bR hi h2) h3 h4 hkn.2 o.type
  exact wp_pure hi hk hd r2 hkn.1 (by simp[execOp,ho,resolve,invoke,builtin,r1])
 ·rename_i s x t tx
  obtain⟨e,h1,ix,h2,sv,h3,xv,h4,h5⟩:=h
  obtain⟨ht,hei⟩:=dI hT h1
  have key:∀ {ys:List SV} {vs:List Value},ax c ys vs→(∀ u∈vs,u.cells.size=e.2.size∧cq u)→Src P e.2.size tx (a.eval x) ys.length (cellsOf vs) c.w→eX c.H e.2 sv ys k→o.wpIn (FR ρ) 0 P a c.w next Q:=fun q1 q2 q3 q4=>by
   obtain⟨z,c',u,k1,k2,k3,k4,k5⟩:=FX hi.heap ht hei (bR hi h3) q1 q2 q3 o.type q4
   exact eQ hd (by simp[execOp,ho,resolve,invoke,builtin,k5]) (hk z c' u k1 k2 k3 k4)
  have hix:=(hT tx ix h2).1
  split at h5
  ·rename_i e' he
   rw[he] at hix
   obtain⟨ys,h6,h7,h8⟩:=h5
   obtain⟨vs,q1,q2,q3⟩:=ON (P:=P) hi.heap (bR hi h4) h6 h7 hix
   exact key q1 q2 q3 h8
  ·rename_i he
   rw[he] at hix
   cases xv with
   |str bs=>
    obtain⟨h6,h7⟩:=h5
    obtain⟨vs,q1,q2,q3⟩:=Ad (P:=P) (c:=c) bs hix
    have hxv:=bR hi h4
    simp only[aB] at hxv
    exact key q1 (by rw[h6];exact q2) (by rw[h6,hxv.1];exact q3) h7
   |_=>exact h5.elim
  ·exact h5.elim
 ·rename_i d s t ts
  obtain⟨e,h1,e',h2,dv,h3,sv,h4,ys,h5,h6,h7⟩:=h
  exact Ls hT hi hk ho h1 h2 h3 h4 h5 h6 h7
 ·rename_i x t
  obtain⟨e,h1,xv,h2,h3⟩:=h
  exact HZ hT hi hk ho h1 h2 h3
 ·rename_i x y
  obtain⟨p,h1,q,h2,h3⟩:=h
  cases p with
  |int i m=>cases q with
   |int j n=>
    obtain⟨h4,h5⟩:=h3
    have r1:=bR hi h1
    have r2:=bR hi h2
    simp only[aB] at r1 r2
    refine wp_pure (u:= .int i (if n<m then n else m)) hi hk hd (by simp only[aB];refine⟨trivial,?_⟩;split<;>first|exact h4|exact r1.2) h5 ?_
    simp[execOp,ho,resolve,invoke,builtin,Builtin.min_,Builtin.min2,r1.1,r2.1]
   |_=>exact h3.elim
  |_=>exact h3.elim
 ·rename_i x y
  obtain⟨p,h1,q,h2,h3⟩:=h
  cases p with
  |int i m=>cases q with
   |int j n=>
    obtain⟨h4,h5⟩:=h3
    have r1:=bR hi h1
    have r2:=bR hi h2
    simp only[aB] at r1 r2
    refine wp_pure (u:= .int i (if m<n then n else m)) hi hk hd (by simp only[aB];refine⟨trivial,?_⟩;split<;>first|exact h4|exact r1.2) h5 ?_
    simp[execOp,ho,resolve,invoke,builtin,Builtin.max_,Builtin.max2,r1.1,r2.1]
   |_=>exact h3.elim
  |_=>exact h3.elim
 ·exact h.elim
theorem MT {f:Operand} {args:Array Operand} {tys:Array Nat} (hi:Inv G nt B c env a) (ho:o.op= .call { callee:= .value f,args,argTypes:=tys}) {fv:SV} {xs:List SV} (hf:ev G env f=some fv) (hx:kJ G env args.toList=some xs)
 (h:aY P G fv xs c.H fun r H'=>tI (k r H'))
 (hk:∀ x c' u,k x c'.H→aM c'→aB c' x u→Grow c c'→next (a.put o.dst u) c'.w):o.wpIn (FR ρ) 0 P a c.w next Q:=by
 have hd:∀ c,o.op≠ .defer c:=by rw[ho];intro _ e;cases e
 obtain⟨d,w1,h1,h2⟩:=h c (a.eval f) (args.toList.map a.eval) rfl hi.heap hi.gG (bR hi hf) (yW hi hx)
 refine⟨fun _ _=>trivial,?_⟩
 rw[Oper.semAt_eq _ _ _ hd]
 have harr:args.map a.eval=(args.toList.map a.eval).toArray:=by rw[← Array.toList_inj];simp
 have hres:(resolve a.eval { callee:= .value f,args,argTypes:=tys} o.type).run P c.w= .ok d w1:=by
  simp only[resolve];rw[harr];exact h1
 have hm:∀ {R:Ending→World→Prop},(∀ v w',(∃ x c',c'.w=w'∧k x c'.H∧aM c'∧aB c' x v∧Grow c c')→R (.returned v) w')→∀ e w',tG c (fun r H'=>tI (k r H')) e w'→R e w':=fun hR e w' ⟨v,x,c',e1,e2,e3,e4,e5,e6⟩=>by
  subst e1;exact hR v w' ⟨x,c',e2,e3,e4,e5,e6⟩
 rcases h2 with⟨g,asv,w2,b1,b2⟩|⟨l,g,tmps,asn,bd,w2,b1,b2⟩
 ·have hrun:(execOp a.eval o).run P c.w= .ok (.enter g asv) w2:=by
   simp only[execOp,ho,Sem.run_bind,hres,Result.andThen_ok,b1]
  rw[hrun]
  refine⟨fun hh=>(by cases hh),CallsIn.mono (F:=FR ρ) b2 fun e w' he=>?_⟩
  obtain⟨v,x,c',rfl,rfl,e3,e4,e5,e6⟩:=he
  exact hk x c' v e3 e4 e5 e6
 ·have hrun:(execOp a.eval o).run P c.w= .ok (.round l g tmps asn bd) w2:=by
   simp only[execOp,ho,Sem.run_bind,hres,Result.andThen_ok,b1]
  rw[hrun]
  refine⟨fun hh=>(by cases hh),RoundIn.mono (F:=FR ρ) b2 fun e w' he=>?_⟩
  obtain⟨v,x,c',rfl,rfl,e3,e4,e5,e6⟩:=he
  exact hk x c' v e3 e4 e5 e6
theorem y8 (hT:aI P T) (hi:Inv G nt B c env a) (h:cH P G T own env c.H o.dst o.type o.op k)
 (hk:∀ x c' u,k x c'.H→aM c'→aB c' x u→Grow c c'→next (a.put o.dst u) c'.w):o.wpIn (FR ρ) 0 P a c.w next Q:=by
 cases ho:o.op with
 |move x=>rw[ho] at h;exact wp_move hi ho h hk
 |assign x=>rw[ho] at h;exact wp_assign hi ho h hk
 |pick x y z=>rw[ho] at h;exact MV hi ho h hk
 |alloc t=>rw[ho] at h;exact KA hT hi ho h hk
 |box t x=>rw[ho] at h;exact OU hT hi ho h hk
 |build t x=>rw[ho] at h;exact wp_build hT hi ho h hk
 |buildSlice t n x=>rw[ho] at h;exact wp_buildSlice hT hi ho h hk
 |load t x=>rw[ho] at h;exact MU hT hi ho h hk
 |store t x y=>rw[ho] at h;exact KI hT hi ho h hk
 |nilCheck x=>rw[ho] at h;exact CW hi ho h hk
 |binOp op t x y yt=>rw[ho] at h;exact KD hT hi ho h hk
 |unOp op t x=>rw[ho] at h;exact MW hi ho h hk
 |convert s t x=>rw[ho] at h;exact En hT hi ho h hk
 |makeFunc f x y=>rw[ho] at h;exact CV hi ho h hk
 |makeMap t r=>rw[ho] at h;cases r with
  |none=>exact Ep hi ho h hk
  |some r=>exact h.elim
 |slice t x lo hi' mx=>rw[ho] at h;cases mx with
  |none=>exact KH hT hi ho h hk
  |some r=>cases hi' with
   |none=>exact h.elim
   |some q=>exact Hn hT hi ho h hk
 |makeSlice t x y=>rw[ho] at h;exact Aj hT hi ho h hk
 |fieldAddr t x f=>rw[ho] at h;exact Ah hT hi ho h hk
 |field t x f=>rw[ho] at h;exact KE hT hi ho h hk
 |indexAddr t x i=>rw[ho] at h;exact Ai hT hi ho h hk
 |index t x i=>rw[ho] at h;exact KF hT hi ho h hk
 |lookup t x i ok=>rw[ho] at h;exact Hm hT hi ho h hk
 |mapUpdate t m x y=>rw[ho] at h;exact qY hT hi (.inl ho) h hk
 |insert t m x y=>rw[ho] at h;exact qY (own:=own) hT hi (.inr ho) h hk
 |extract x i=>rw[ho] at h;exact Eo hi ho h hk
 |call cl=>
  rw[ho] at h
  obtain⟨cal,args,tys⟩:=cl
  cases cal with
  |builtin b=>exact Em hT hi ho h hk
  |value f=>obtain⟨fv,h1,xs,h2,h3⟩:=h;exact MT hi ho h1 h2 h3 hk
  |invoke r m=>exact h.elim
 |_=>rw[ho] at h;exact h.elim
end
end
section
abbrev Env:=List (Nat×SV)
def lM (nt:Nat) (d:Option Nat) (x:SV) (env:Env) (k:Env→Prop):Prop:=
 match d with
 |some d=>bY (d<nt) (k ((d,x)::env))
 |none=>k env
def yF:SV→Option (Option Bool)
 | .bool b=>some (some b)
 | .undef=>some none
 |_=>none
def jS (P:Program) (G:Gl) (T:bX) (own:List Nat) (nt:Nat) (all:List Oper):List Oper→Env→List av→(Env→List av→Prop)→Prop
 |[],env,H,k=>k env H
 |o::r,env,H,k=>
  match o.guard with
  |none=>cH P G T own env H o.dst o.type o.op fun x H'=>lM nt o.dst x env fun env'=>jS P G T own nt all r env' H' k
  |some (j,want)=>aE ((all[j]?).bind (·.dst)) fun d=>aE (look env d) fun v=>aE (yF v) fun g=>
   Br (g==some want) (cH P G T own env H o.dst o.type o.op fun x H'=>lM nt o.dst x env fun env'=>jS P G T own nt all r env' H' k)
    (lM nt o.dst .undef env fun env'=>jS P G T own nt all r env' H k)
@[congr] theorem OI {nt:Nat} {d:Option Nat} {x x':SV} {env env':Env} {k:Env→Prop} (h1:x=x') (h2:env=env'):lM nt d x env k=lM nt d x' env' k:=by rw[h1,h2]
@[congr] theorem Nf {P:Program} {G:Gl} {T:bX} {own:List Nat} {nt:Nat} {all l:List Oper} {env env':Env} {H H':List av} {k:Env→List av→Prop} (h1:env=env') (h2:H=H'):
 jS P G T own nt all l env H k=jS P G T own nt all l env' H' k:=by rw[h1,h2]
structure St where
 env:Env
 H:List av
def ep (P:Program) (G:Gl) (nt:Nat) (ρ:Option Nat) (C:Cx) (cd:Code) (Q:Exit→St→Prop) (s:St):Prop:=
 ∀ c a,c.H=s.H→Inv G nt C.w.heap.size c s.env a→Grow C c→cd.wpIn (FR ρ) 0 P (fun e a' w'=>∃ s' c',Q e s'∧c'.H=s'.H∧c'.w=w'∧Inv G nt C.w.heap.size c' s'.env a'∧Grow C c') a c.w
@[congr] theorem OX {P:Program} {G:Gl} {nt:Nat} {ρ:Option Nat} {C:Cx} {cd:Code} {Q:Exit→St→Prop} {s s':St} (h:s=s'):ep P G nt ρ C cd Q s=ep P G nt ρ C cd Q s':=by rw[h]
section
variable {P:Program} {G:Gl} {T:bX} {own:List Nat} {nt B:Nat} {ρ:Option Nat} {C:Cx}
theorem lY {c:Cx} {env:Env} {a:Act} (hi:Inv G nt B c env a) {ops:Array Oper} {j d:Nat} {v:SV} {g:Option Bool} (h1:(ops.toList[j]?).bind (·.dst)=some d) (h2:look env d=some v) (h3:yF v=some g):yielded ops a.tmps j=g:=by
 have hr:=hi.env d v h2
 unfold yielded
 rw[Array.getElem?_toList] at h1
 rw[h1,Option.bind_some]
 rw[Array.getD_eq_getD_getElem?] at hr
 cases v<;>simp only[yF,Option.some.injEq] at h3<;>try (cases h3;done)
 ·subst h3
  simp only[aB] at hr
  cases ht:a.tmps[d]? with
  |none=>rfl
  |some u=>rw[ht] at hr;simp only[Option.getD_some] at hr;rw[hr];rfl
 ·subst h3
  simp only[aB] at hr
  cases ht:a.tmps[d]? with
  |none=>rw[ht] at hr;simp[undef] at hr
  |some u=>rw[ht] at hr;simp only[Option.getD_some] at hr;rw[hr]
theorem mC (hT:aI P T) {ops:Array Oper} {Q:Exit→Act→World→Prop} {k:Env→List av→Prop}:∀ (m i:Nat),i+m=ops.size→∀ {c:Cx} {env:Env} {a:Act},Inv G nt B c env a→jS P G T own nt ops.toList (ops.toList.drop i) env c.H k→
 (∀ env' c' a',k env' c'.H→Inv G nt B c' env' a'→Grow c c'→Q .normal a' c'.w)→wpOpsIn (FR ρ) 0 P ops Q (List.range' i m) a c.w
 |0,i,hm,c,env,a,hi,h,hk=>by
  have:ops.toList.drop i=[]:=List.drop_eq_nil_of_le (by simp;omega)
  rw[this] at h
  exact hk env c a h hi (Grow.refl c)
 |m+1,i,hm,c,env,a,hi,h,hk=>by
  have hlt:i<ops.size:=by omega
  have hget:ops[i]? =some ops[i]:=Array.getElem?_eq_getElem hlt
  have hdrop:ops.toList.drop i=ops[i]::ops.toList.drop (i+1):=by
   rw[List.drop_eq_getElem_cons (by simpa using hlt)];simp
  rw[hdrop] at h
  simp only[List.range'_succ,wpOpsIn,hget]
  generalize ops[i]=o at h hget ⊢
  have run:cH P G T own env c.H o.dst o.type o.op (fun x H'=>lM nt o.dst x env fun env'=>jS P G T own nt ops.toList (ops.toList.drop (i+1)) env' H' k)→o.wpIn (FR ρ) 0 P a c.w (wpOpsIn (FR ρ) 0 P ops Q (List.range' (i+1) m)) Q:=fun hx=>by
   refine y8 hT hi hx fun x c' u e1 e2 e3 e4=>?_
   cases hd:o.dst with
   |none=>
    rw[hd] at e1
    exact mC hT m (i+1) (by omega) (hi.kQ e4 e2) e1 fun env' c2 a' f1 f2 f3=>hk env' c2 a' f1 f2 (e4.trans f3)
   |some d=>
    rw[hd] at e1
    exact mC hT m (i+1) (by omega) (hi.put e4 e2 e3 e1.1) e1.2 fun env' c2 a' f1 f2 f3=>hk env' c2 a' f1 f2 (e4.trans f3)
  simp only[jS] at h
  split at h
  ·rename_i hg
   simp only[Region.wanted,hg,if_true]
   exact run h
  ·rename_i j want hg
   obtain⟨d,h1,v,h2,g,h3,h4⟩:=h
   have hy:=lY hi h1 h2 h3
   simp only[Region.wanted,hg,hy]
   cases hgw:(g==some want) with
   |true=>
    rw[if_pos rfl]
    exact run (h4.1 hgw)
   |false=>
    rw[if_neg (by simp)]
    refine⟨fun _ _=>trivial,?_⟩
    have e1:=h4.2 hgw
    cases hd:o.dst with
    |none=>
     rw[hd] at e1
     exact mC hT m (i+1) (by omega) (hi.kQ (Grow.refl c) hi.heap) e1 hk
    |some d=>
     rw[hd] at e1
     exact mC hT m (i+1) (by omega) (hi.put (Grow.refl c) hi.heap aB.undef e1.1) e1.2 hk
theorem ep.region (hT:aI P T) {id:Nat} {ops:Array Oper} {Q:Exit→St→Prop} {s:St} (h:jS P G T own nt ops.toList ops.toList s.env s.H fun env H=>Q .normal ⟨env,H⟩):ep P G nt ρ C (.region id ops false) Q s:=by
 intro c a hc hi hg
 refine wpIn_region ?_
 rw[List.range_eq_range']
 refine mC hT (own:=own) (k:=fun env H=>Q .normal ⟨env,H⟩) ops.size 0 (by omega) hi (by rw[hc];simpa using h) fun env' c' a' e1 e2 e3=>?_
 exact⟨⟨env',c'.H⟩,c',e1,rfl,rfl,e2,hg.trans e3⟩
theorem ep.seq {x y:Code} {Q:Exit→St→Prop} {s:St} (h:ep P G nt ρ C x (fun e s'=>match e with
 | .normal=>ep P G nt ρ C y Q s'
 |e=>Q e s') s):ep P G nt ρ C (.seq x y) Q s:=by
 intro c a hc hi hg
 refine wpIn_seq (wpIn_mono (h c a hc hi hg) ?_)
 rintro e a' w' ⟨s',c',h1,h2,h3,h4,h5⟩
 cases e with
 |normal=>subst h3;exact h1 c' a' h2 h4 h5
 |_=>exact⟨s',c',h1,h2,h3,h4,h5⟩
theorem ep.skip {Q:Exit→St→Prop} {s:St} (h:Q .normal s):ep P G nt ρ C .skip Q s:=fun c a hc hi hg=>wpIn_skip ⟨s,c,h,hc,rfl,hi,hg⟩
theorem ep.ret {Q:Exit→St→Prop} {s:St} (h:Q .ret s):ep P G nt ρ C .ret Q s:=fun c a hc hi hg=>wpIn_ret ⟨s,c,h,hc,rfl,hi,hg⟩
theorem ep.exit {id:Nat} {Q:Exit→St→Prop} {s:St} (h:Q (.exit id) s):ep P G nt ρ C (.exit id) Q s:=fun c a hc hi hg=>wpIn_exit ⟨s,c,h,hc,rfl,hi,hg⟩
theorem ep.block {id:Nat} {x:Code} {Q:Exit→St→Prop} {s:St} (h:ep P G nt ρ C x (fun e s'=>match e with
 | .exit id'=>if id'=id then Q .normal s' else Q (.exit id') s'
 |e=>Q e s') s):ep P G nt ρ C (.block id x) Q s:=by
 intro c a hc hi hg
 refine wpIn_block (wpIn_mono (h c a hc hi hg) ?_)
 rintro e a' w' ⟨s',c',h1,h2,h3,h4,h5⟩
 cases e with
 |exit id'=>
  simp only[Exit.inBlock] at h1 ⊢
  split
  ·rename_i e;rw[if_pos e] at h1;exact⟨s',c',h1,h2,h3,h4,h5⟩
  ·rename_i e;rw[if_neg e] at h1;exact⟨s',c',h1,h2,h3,h4,h5⟩
 |_=>exact⟨s',c',h1,h2,h3,h4,h5⟩
theorem ep.cond {x:Operand} {p q:Code} {Q:Exit→St→Prop} {s:St} (h:aE (ev G s.env x) fun v=>aE (NK v) fun g=>Br g (ep P G nt ρ C p Q s) (ep P G nt ρ C q Q s)):ep P G nt ρ C (.cond x p q) Q s:=by
 intro c a hc hi hg
 obtain⟨v,h1,g,h2,h3⟩:=h
 have hr:=bR hi h1
 rw[AE h2] at hr
 simp only[aB] at hr
 refine wpIn_cond hr ?_
 cases g with
 |true=>exact h3.1 rfl c a hc hi hg
 |false=>exact h3.2 rfl c a hc hi hg
theorem vY {F:Fence} {n:Nat} {c:Code} {Q:Exit→Act→World→Prop} {a:Act} {w:World} (I:Nat→Act→World→Prop) (N:Nat) (h₀:I N a w)
 (round:∀ j a w,I j a w→c.wpIn F n P (Exit.then (fun a' w'=>∃ i,i<j∧I i a' w') Q) a w):(Code.loop c).wpIn F n P Q a w:=by
 intro b k cs hro hb hr
 have key:∀ j a w,I j a w→
  ∃ e a' w',Q e a' w'∧ArrivesIn (Machine.fenced P F) P (lone (b.atR a (.code c:: .inLoop c::k)) cs w) b k cs e a' w':=by
  intro j
  induction j using Nat.strongRecOn with
  |_ j ih=>
   intro a w hI
   obtain⟨e,a₁,w₁,hq,harr⟩:=round j a w hI b (.inLoop c::k) cs hro hb hr
   cases e with
   |normal=>
    obtain⟨i,hlt,hI₁⟩:=hq
    obtain⟨e₂,a₂,w₂,hq₂,harr₂⟩:=ih i hlt a₁ w₁ hI₁
    exact⟨e₂,a₂,w₂,hq₂,.of_steps (StepsIn.trans harr (.one (fenced_calm hb hr rfl) stepR_inLoop)) harr₂⟩
   |exit id=>exact⟨_,a₁,w₁,hq,.pass (x:= .inLoop c) rfl (fun _ _=> .inl (by simp)) harr⟩
   |goto l=>exact⟨_,a₁,w₁,hq,.pass (x:= .inLoop c) rfl (fun _ _=> .inl (by simp)) harr⟩
   |ret=>exact⟨_,a₁,w₁,hq,.pass (x:= .inLoop c) rfl (fun _ _=> .inl (by simp)) harr⟩
   |panic ch=>exact⟨_,a₁,w₁,hq,.pass (x:= .inLoop c) rfl (fun _ _=> .inl (by simp)) harr⟩
   |outgrown=>exact⟨_,a₁,w₁,hq,.pass (x:= .inLoop c) rfl (fun _ _=> .inl (by simp)) harr⟩
 obtain⟨e,a',w',hq,harr⟩:=key N a w h₀
 exact⟨e,a',w',hq,.of_steps (.one (fenced_calm hb hr rfl) stepR_loop) harr⟩
theorem ep.loop {x:Code} {Q:Exit→St→Prop} {s:St} (I:Nat→St→Prop) (n:Nat) (h0:I n s)
 (round:∀ n s,I n s→ep P G nt ρ C x (fun e s'=>match e with
  | .normal=>∃ m,m<n∧I m s'
  |e=>Q e s') s):ep P G nt ρ C (.loop x) Q s:=by
 intro c a hc hi hg
 refine vY (fun m a' w'=>∃ s' c',I m s'∧c'.H=s'.H∧c'.w=w'∧Inv G nt C.w.heap.size c' s'.env a'∧Grow C c') n ⟨s,c,h0,hc,rfl,hi,hg⟩ ?_
 rintro j a w ⟨s',c',h1,h2,rfl,h3,h4⟩
 refine wpIn_mono (round j s' h1 c' a h2 h3 h4) ?_
 rintro e a' w' ⟨s2,c2,g1,g2,g3,g4,g5⟩
 cases e with
 |normal=>obtain⟨m,hm,g1⟩:=g1;exact⟨m,hm,s2,c2,g1,g2,g3,g4,g5⟩
 |_=>exact⟨s2,c2,g1,g2,g3,g4,g5⟩
theorem ep.mono {cd:Code} {Q Q':Exit→St→Prop} {s:St} (h:ep P G nt ρ C cd Q s) (hq:∀ e s',Q e s'→Q' e s'):ep P G nt ρ C cd Q' s:=by
 intro c a hc hi hg
 refine wpIn_mono (h c a hc hi hg) ?_
 rintro e a' w' ⟨s',c',h1,h2⟩
 exact⟨s',c',hq e s' h1,h2⟩
def Pn (P:Program) (G:Gl) (T:bX) (own:List Nat) (nt:Nat) (ρ:Option Nat) (C:Cx):Code→Env→List av→(Exit→Env→List av→Prop)→Prop
 | .skip,env,H,k=>k .normal env H
 | .label _,env,H,k=>k .normal env H
 | .ret,env,H,k=>k .ret env H
 | .exit id,env,H,k=>k (.exit id) env H
 | .cond x p q,env,H,k=>aE (ev G env x) fun v=>aE (NK v) fun g=>Br g (Pn P G T own nt ρ C p env H k) (Pn P G T own nt ρ C q env H k)
 | .block id x,env,H,k=>Pn P G T own nt ρ C x env H fun e env' H'=>match e with
  | .exit id'=>if id'=id then k .normal env' H' else k (.exit id') env' H'
  |e=>k e env' H'
 | .region _ ops false,env,H,k=>jS P G T own nt ops.toList ops.toList env H fun env' H'=>k .normal env' H'
 |cd,env,H,k=>ep P G nt ρ C cd (fun e s=>k e s.env s.H) ⟨env,H⟩
omit T in
@[congr] theorem O0 {T:bX} {cd:Code} {env env':Env} {H H':List av} {k:Exit→Env→List av→Prop} (h1:env=env') (h2:H=H'):Pn P G T own nt ρ C cd env H k=Pn P G T own nt ρ C cd env' H' k:=by rw[h1,h2]
end
end
section
mutual
def SV.under (n:Nat):SV→Bool
 | .ptr id _ _ _=>decide (id<n)
 | .sl id _ _ _=>decide (id<n)
 | .map id=>decide (id<n)
 | .it id=>decide (id<n)
 | .agg fs=>SV.aj n fs
 | .list _ xs=>SV.aj n xs
 | .gM x=>SV.under n x
 | .fn _ xs ys=>SV.aj n xs&&SV.aj n ys
 | .tuple xs=>SV.aj n xs
 | .eC _ _ _ _ ks vs=>SV.aj n ks&&SV.aj n vs
 |_=>true
def SV.aj (n:Nat):List SV→Bool
 |[]=>true
 |x::xs=>SV.under n x&&SV.aj n xs
end
def dq (n:Nat):List (SV×SV)→Bool
 |[]=>true
 |p::r=>SV.under n p.1&&SV.under n p.2&&dq n r
def av.under (n:Nat):av→Bool
 | .cells _ _ vals=>SV.aj n vals
 | .map _ es=>dq n es
 |_=>true
def closed (H:List av):Prop:=∀ B∈H,B.under H.length=true
theorem aB.oW (c:Cx):(∀ x v,aB c x v→x.under c.H.length=true)∧(∀ xs vs,ax c xs vs→SV.aj c.H.length xs=true):=by
 have ref:∀ id:Nat,(c.H[id]? =none→False)→decide (id<c.H.length)=true:=fun id h=>by
  rw[decide_eq_true_eq]
  by_cases hh:id<c.H.length
  ·exact hh
  ·exact(h (List.getElem?_eq_none (by omega))).elim
 apply SV.both
 ·intro x h1 h2 h3 h4 h5 h6 v h
  cases x with
  |agg fs=>exact absurd rfl (h1 fs)
  |list n xs=>exact absurd rfl (h2 n xs)
  |gM y=>exact absurd rfl (h3 y)
  |fn f a b=>exact absurd rfl (h4 f a b)
  |tuple xs=>exact absurd rfl (h5 xs)
  |eC b clk born kd ks vs=>exact absurd rfl (h6 b clk born kd ks vs)
  |ptr id g i off=>simp only[aB] at h;exact ref id fun e=>by rw[e] at h;exact h.2
  |sl id g off len=>simp only[aB] at h;exact ref id fun e=>by rw[e] at h;exact h.2
  |map id=>simp only[aB] at h;exact ref id fun e=>by rw[e] at h;exact h.2
  |it id=>simp only[aB] at h;exact ref id fun e=>by rw[e] at h;exact h.2
  |_=>rfl
 ·intro fs ih v h
  simp only[aB] at h
  obtain⟨vs,h1,_⟩:=h
  exact ih vs h1
 ·intro sz xs ih v h
  simp only[aB] at h
  obtain⟨a,cap,_,_,_,h3⟩:=h
  rcases h3 with rfl|⟨b,o,vs,_,h4,_⟩
  ·rfl
  ·exact ih vs h4
 ·intro x ih v h
  simp only[aB] at h
  obtain⟨b,o,u,_,h1,_⟩:=h
  exact ih u h1
 ·intro f xs ys ih1 ih2 v h
  simp only[aB] at h
  obtain⟨us,vs,h0,h1,_⟩:=h
  simp only[SV.under,ih1 us h0,ih2 vs h1,Bool.and_self]
 ·intro xs ih v h
  simp only[aB] at h
  obtain⟨vs,h0,_⟩:=h
  exact ih vs h0
 ·intro b clk born kd ks vs ih1 ih2 v h
  simp only[aB] at h
  obtain⟨_,_,ents,_,_,_,h5,h6,_⟩:=h
  simp only[SV.under,ih1 _ h5,ih2 _ h6,Bool.and_self]
 ·intro vs h;rfl
 ·intro x xs ih1 ih2 vs h
  obtain⟨u,us,h1,h2,_⟩:=ax.bg.1 h
  simp only[SV.aj,ih1 u h1,ih2 us h2,Bool.and_self]
theorem aM.closed {c:Cx} (h:aM c):closed c.H:=by
 intro B hB
 obtain⟨id,hid,rfl⟩:=List.getElem_of_mem hB
 have hb:=h.dQ id _ (List.getElem?_eq_getElem hid)
 cases hBB:c.H[id] with
 |dead=>rfl
 |obj _=>rfl
 |cells g sz vals=>
  rw[hBB] at hb
  rcases hb with⟨_,rfl⟩|⟨_,_,_,_,_,vs,_,_,_,h4,_⟩
  ·rfl
  ·exact(aB.oW c).2 _ _ h4
 |map kd es=>
  rw[hBB] at hb
  obtain⟨_,ents,_,_,_,h4,_⟩:=hb
  have:∀ {es:List (SV×SV)} {l:List MapEntry},cg c es l→dq c.H.length es=true:=by
   intro es
   induction es with
   |nil=>intro l _;rfl
   |cons p es ih=>
    intro l h
    obtain⟨q,x⟩:=p
    simp only[cg] at h
    obtain⟨e,es',h1,h2,h3,_⟩:=h
    simp only[dq,(aB.oW c).1 _ _ h1,(aB.oW c).1 _ _ h2,ih h3,Bool.and_self]
  exact this h4
theorem aB.jg {θ:Nat→Option (Nat×Nat)} {H X:List av} {w:World}:(∀ x v,aB ⟨θ,H++X,w⟩ x v→x.under H.length=true→aB ⟨θ,H,w⟩ x v)∧
 (∀ xs vs,ax ⟨θ,H++X,w⟩ xs vs→SV.aj H.length xs=true→ax ⟨θ,H,w⟩ xs vs):=by
 have hget:∀ id:Nat,decide (id<H.length)=true→(H++X)[id]? =H[id]? :=fun id h=>List.getElem?_append_left (by simpa using h)
 have himm:∀ b,Cx.qZ ⟨θ,H++X,w⟩ b→Cx.qZ ⟨θ,H,w⟩ b:=fun b ⟨h1,h2⟩=>⟨h1,fun⟨id,o,⟨B,hB,hl⟩,ht⟩=>h2 ⟨id,o,⟨B,(by
  have hlt:=(List.getElem?_eq_some_iff.1 hB).1
  show(H++X)[id]? =some B
  rw[List.getElem?_append_left hlt];exact hB),hl⟩,ht⟩⟩
 apply SV.both
 ·intro x h1 h2 h3 h4 h5 h6 v h hb
  cases x with
  |agg fs=>exact absurd rfl (h1 fs)
  |list n xs=>exact absurd rfl (h2 n xs)
  |gM y=>exact absurd rfl (h3 y)
  |fn f a b=>exact absurd rfl (h4 f a b)
  |tuple xs=>exact absurd rfl (h5 xs)
  |eC b clk born kd ks vs=>exact absurd rfl (h6 b clk born kd ks vs)
  |ptr id g i off=>simp only[aB,hget id hb] at h ⊢;exact h
  |sl id g off len=>simp only[aB,hget id hb] at h ⊢;exact h
  |map id=>simp only[aB,hget id hb] at h ⊢;exact h
  |it id=>simp only[aB,hget id hb] at h ⊢;exact h
  |_=>exact h
 ·intro fs ih v h hb
  simp only[aB] at h ⊢
  obtain⟨vs,h1,h2⟩:=h
  exact⟨vs,ih vs h1 hb,h2⟩
 ·intro sz xs ih v h hb
  simp only[aB] at h ⊢
  obtain⟨a,cap,h0,h1,h2,h3⟩:=h
  refine⟨a,cap,h0,h1,h2,?_⟩
  rcases h3 with h3|⟨b,o,vs,h3,h4,h5,h6,h7⟩
  ·exact .inl h3
  ·exact .inr ⟨b,o,vs,h3,ih vs h4 hb,h5,h6,himm b h7⟩
 ·intro x ih v h hb
  simp only[aB] at h ⊢
  obtain⟨b,o,u,h0,h1,h2,h3,h4⟩:=h
  exact⟨b,o,u,h0,ih u h1 hb,h2,h3,himm b h4⟩
 ·intro f xs ys ih1 ih2 v h hb
  simp only[SV.under,Bool.and_eq_true] at hb
  simp only[aB] at h ⊢
  obtain⟨us,vs,h0,h1,h2⟩:=h
  exact⟨us,vs,ih1 us h0 hb.1,ih2 vs h1 hb.2,h2⟩
 ·intro xs ih v h hb
  simp only[aB] at h ⊢
  obtain⟨vs,h0,h1⟩:=h
  exact⟨vs,ih vs h0 hb,h1⟩
 ·intro b clk born kd ks vs ih1 ih2 v h hb
  simp only[SV.under,Bool.and_eq_true] at hb
  simp only[aB] at h ⊢
  obtain⟨h0,h1,ents,h2,h3,h4,h5,h6,h7⟩:=h
  exact⟨h0,himm b h1,ents,h2,h3,h4,ih1 _ h5 hb.1,ih2 _ h6 hb.2,h7⟩
 ·intro vs h _;simpa [ax] using h
 ·intro x xs ih1 ih2 vs h hb
  simp only[SV.aj,Bool.and_eq_true] at hb
  obtain⟨u,us,h1,h2,h3⟩:=ax.bg.1 h
  exact ax.bg.2 ⟨u,us,ih1 u h1 hb.1,ih2 us h2 hb.2,h3⟩
theorem Cx.cut {θ:Nat→Option (Nat×Nat)} {H X:List av} {w:World} (hc:aM ⟨θ,H++X,w⟩) (hcl:closed H):aM ⟨θ,H,w⟩∧∀ C:Cx,C.H.length≤H.length→Grow C ⟨θ,H++X,w⟩→Grow C ⟨θ,H,w⟩:=by
 have hget:∀ (id:Nat) (B:av),H[id]? =some B→(H++X)[id]? =some B:=fun id B h=>by
  rw[List.getElem?_append_left (List.getElem?_eq_some_iff.1 h).1];exact h
 refine⟨⟨fun id B hB=>?_,fun i j b o o' ⟨Bi,h1,h2⟩ ⟨Bj,h3,h4⟩ h5 h6=>hc.inj i j b o o' ⟨Bi,hget i Bi h1,h2⟩ ⟨Bj,hget j Bj h3,h4⟩ h5 h6⟩,fun C hC hg=>?_⟩
 ·have hb:=hc.dQ id B (hget id B hB)
  have hbel:=hcl B (List.mem_of_getElem? hB)
  cases B with
  |dead=>trivial
  |obj o=>exact hb
  |cells g sz vals=>
   rcases hb with hb|⟨b,o,cs,T,fr,vs,h1,h2,h3,h4,h5,h6⟩
   ·exact .inl hb
   ·exact .inr ⟨b,o,cs,T,fr,vs,h1,h2,h3,aB.jg.2 _ _ h4 hbel,h5,h6⟩
  |map kd es=>
   obtain⟨b,ents,clk,h1,h2,h3,h4⟩:=hb
   have hE:∀ {es:List (SV×SV)} {l:List MapEntry},cg ⟨θ,H++X,w⟩ es l→dq H.length es=true→cg ⟨θ,H,w⟩ es l:=by
    intro es
    induction es with
    |nil=>intro l h _;exact h
    |cons p es ih=>
     intro l h hb
     obtain⟨q,x⟩:=p
     simp only[cg] at h ⊢
     simp only[dq,Bool.and_eq_true] at hb
     obtain⟨e,es',a1,a2,a3,a4⟩:=h
     exact⟨e,es',aB.jg.1 _ _ a1 hb.1.1,aB.jg.1 _ _ a2 hb.1.2,ih a3 hb.2,a4⟩
   exact⟨b,ents,clk,h1,h2,hE h3 hbel,h4⟩
 ·refine⟨hg.os,hg.tape,hg.output,hg.size,hg.Fz,hg.shape,fun id B hB=>?_,fun id b o hn hl ht=>?_⟩
  ·obtain⟨B',h1,h2⟩:=hg.ids id B hB
   have hlt:id<H.length:=Nat.lt_of_lt_of_le (List.getElem?_eq_some_iff.1 hB).1 hC
   have h1':(H++X)[id]? =some B':=h1
   rw[List.getElem?_append_left hlt] at h1'
   exact⟨B',h1',h2⟩
  ·obtain⟨B,h1,h2⟩:=hl
   exact hg.new id b o hn ⟨B,hget id B h1,h2⟩ ht
section
variable {P:Program} {G:Gl} {T:bX} {own:List Nat} {nt B:Nat} {ρ:Option Nat} {C:Cx}
def Wk (G:Gl) (nt:Nat) (C:Cx) (s s2:St):Prop:=
 ∀ c a,c.H=s.H→Inv G nt C.w.heap.size c s.env a→Grow C c→∃ c',c'.H=s2.H∧c'.w=c.w∧Inv G nt C.w.heap.size c' s2.env a∧Grow C c'
def ah (G:Gl):Prop:=∀ p∈G.l,SV.under 0 p.2=true
theorem SV.cz {n m:Nat} (h:n≤m):(∀ x:SV,x.under n=true→x.under m=true)∧(∀ xs:List SV,SV.aj n xs=true→SV.aj m xs=true):=by
 apply SV.both
 ·intro x h1 h2 h3 h4 h5 h6 hb
  cases x with
  |agg fs=>exact absurd rfl (h1 fs)
  |list n xs=>exact absurd rfl (h2 n xs)
  |gM y=>exact absurd rfl (h3 y)
  |fn f a b=>exact absurd rfl (h4 f a b)
  |tuple xs=>exact absurd rfl (h5 xs)
  |eC b clk born kd ks vs=>exact absurd rfl (h6 b clk born kd ks vs)
  |ptr id g i off=>simp only[SV.under,decide_eq_true_eq] at hb ⊢;omega
  |sl id g off len=>simp only[SV.under,decide_eq_true_eq] at hb ⊢;omega
  |map id=>simp only[SV.under,decide_eq_true_eq] at hb ⊢;omega
  |it id=>simp only[SV.under,decide_eq_true_eq] at hb ⊢;omega
  |_=>rfl
 ·intro fs ih hb;exact ih hb
 ·intro n xs ih hb;exact ih hb
 ·intro x ih hb;exact ih hb
 ·intro f a b ih1 ih2 hb
  simp only[SV.under,Bool.and_eq_true] at hb ⊢
  exact⟨ih1 hb.1,ih2 hb.2⟩
 ·intro xs ih hb;exact ih hb
 ·intro b clk born kd ks vs ih1 ih2 hb
  simp only[SV.under,Bool.and_eq_true] at hb ⊢
  exact⟨ih1 hb.1,ih2 hb.2⟩
 ·intro _;rfl
 ·intro x xs ih1 ih2 hb
  simp only[SV.aj,Bool.and_eq_true] at hb ⊢
  exact⟨ih1 hb.1,ih2 hb.2⟩
theorem Wk.cut (hG:ah G) {env env2:Env} {H X:List av} (hB:dW G H.length) (hC:C.H.length≤H.length) (hcl:closed H) (he:∀ t x,look env2 t=some x→look env t=some x∧x.under H.length=true):Wk G nt C ⟨env,H++X⟩ ⟨env2,H⟩:=by
 rintro⟨θ,Hc,w⟩ a hc hi hg
 simp only at hc
 subst hc
 obtain⟨h1,h2⟩:=Cx.cut hi.heap hcl
 refine⟨⟨θ,H,w⟩,rfl,rfl,⟨h1,⟨fun p hp=>aB.jg.1 _ _ (hi.gG.1 p hp) ((SV.cz (Nat.zero_le _)).1 _ (hG p hp)),fun C0 h0=>h2 C0 (hB C0 h0) (hi.gG.2 C0 h0)⟩,hi.size,fun t x hx=>?_,?_⟩,h2 C hC hg⟩
 ·obtain⟨e1,e2⟩:=he t x hx
  exact aB.jg.1 _ _ (hi.env t x e1) e2
 ·refine⟨fun d hd=>?_,hi.defs.2⟩
  obtain⟨r,q1,q2,q3,q4⟩:=hi.defs.1 d hd
  refine⟨r,q1,q2,⟨q3.1,fun⟨id,o,⟨B,hB,hl⟩,ht⟩=>q3.2 ⟨id,o,⟨B,?_,hl⟩,ht⟩⟩,q4⟩
  show(H++X)[id]? =some B
  rw[List.getElem?_append_left (List.getElem?_eq_some_iff.1 hB).1];exact hB
theorem Wk.env {env env2:Env} {H:List av} (he:∀ t x,look env2 t=some x→look env t=some x):Wk G nt C ⟨env,H⟩ ⟨env2,H⟩:=
 fun c a hc hi hg=>⟨c,hc,rfl,⟨hi.heap,hi.gG,hi.size,fun t x hx=>hi.env t x (he t x hx),hi.defs⟩,hg⟩
theorem ep.wk {cd:Code} {Q:Exit→St→Prop} {s s2:St} (hw:Wk G nt C s s2) (h:ep P G nt ρ C cd Q s2):ep P G nt ρ C cd Q s:=by
 intro c a hc hi hg
 obtain⟨c',e1,e2,e3,e4⟩:=hw c a hc hi hg
 rw[← e2]
 exact h c' a e1 e3 e4
theorem ep.Nl {x:Code} {Q:Exit→St→Prop} {s:St} (I:Nat→St→Prop) (n:Nat) (s0:St) (hs:Wk G nt C s s0) (h0:I n s0)
 (round:∀ n s,I n s→ep P G nt ρ C x (fun e s'=>match e with
  | .normal=>∃ m s2,m<n∧Wk G nt C s' s2∧I m s2
  |e=>Q e s') s):ep P G nt ρ C (.loop x) Q s:=by
 refine ep.wk hs ?_
 intro c a hc hi hg
 refine vY (fun m a' w'=>∃ s' c',I m s'∧c'.H=s'.H∧c'.w=w'∧Inv G nt C.w.heap.size c' s'.env a'∧Grow C c') n ⟨s0,c,h0,hc,rfl,hi,hg⟩ ?_
 rintro j a w ⟨s',c',h1,h2,rfl,h3,h4⟩
 refine wpIn_mono (round j s' h1 c' a h2 h3 h4) ?_
 rintro e a' w' ⟨s2,c2,g1,g2,g3,g4,g5⟩
 cases e with
 |normal=>
  obtain⟨m,s3,hm,hwk,g1⟩:=g1
  obtain⟨c3,e1,e2,e3,e4⟩:=hwk c2 a' g2 g4 g5
  exact⟨m,hm,s3,c3,g1,e1,e2.trans g3,e3,e4⟩
 |_=>exact⟨s2,c2,g1,g2,g3,g4,g5⟩
end
end
end Go.Proofs.YtjdfoonhnmpkdaaGreatDoor
