/- A part of the proof: SvK, SvL, SvM, SvN, SvO, SvP, SvQ, SvR, SvS, SwA, SwB, SwC. Names and spaces are cut short by program. -/
import Derived.Test.YtggmfabkpnfodaaDoorMa
import Derived.MapKept
import Derived.WideKeyRuns
import Derived.Great.BuildSlice
import Derived.RangeFuncRecord
set_option linter.unusedSimpArgs false
set_option linter.unusedVariables false
set_option maxRecDepth 10000
set_option maxHeartbeats 4000000
namespace Go.Proofs.YtggmfabkpnfodaaDoor
open Go
section
section
variable {P:Program} {G:Gl} {T:Tab} {own:List Nat} {nt B:Nat} {c:Cx} {env:List (Nat×SV)} {a:Act} {ρ:Option Nat}
variable {o:Oper} {next:Act→World→Prop} {Q:Exit→Act→World→Prop} {k:SV→List Blk→Prop}
theorem MK.of_inj {i j:IntKind} (h:MK.of i=MK.of j):i=j:=by cases i<;>cases j<;>first|rfl|cases h
theorem MK.of_pair {i:IntKind} (h:MK.of i= .pair):False:=by cases i<;>cases h
def KeyD (kd:Option MK) (d:TypeDesc):Prop:=(∃ j,kd=some (.of j)∧d= .int j)∨(kd=none∧d= .string)
def KeyTy (P:Program) (kd:Option MK) (kt:Nat):Prop:=
 (∃ j,kd=some (.of j)∧P.underlying kt=some (.int j))∨(kd=none∧P.underlying kt=some .string)∨(∃ q i,kd=some .pair∧P.underlying kt=some (.array 2 q)∧P.underlying q=some .string∧P.info? q=some i∧P.cellsOf q=1)
theorem keyIs_rep {kd:Option MK} {d:TypeDesc} (hd:KeyD kd d) {x:SV} {v:Value} (h:keyIs kd x=true) (hr:Rep c x v):MapKept.IsKey d v:=by
 rcases hd with⟨j,rfl,rfl⟩|⟨rfl,rfl⟩
 ·cases x with
  |int i n=>simp only[keyIs,decide_eq_true_eq] at h;have:=MK.of_inj h;subst this;simp only[Rep] at hr;rw[hr.1];rfl
  |agg l=>cases j<;>simp[keyIs,MK.of] at h
  |_=>cases h
 ·cases x with
  |str s=>simp only[Rep] at hr;rw[hr.1];trivial
  |_=>cases h
theorem keyEq_rep {kd:Option MK} {d:TypeDesc} (hd:KeyD kd d) {x y:SV} {u v:Value} (hx:keyIs kd x=true) (hy:keyIs kd y=true) (hu:Rep c x u) (hv:Rep c y v):Instr.sameNow d u v=some (SV.keyEq x y)∧(SV.keyEq x y=true→u=v):=by
 rcases hd with⟨k,rfl,rfl⟩|⟨rfl,rfl⟩
 ·cases x with
  |int i n=>cases y with
   |int j m=>
    simp only[keyIs,decide_eq_true_eq] at hx hy
    have e1:=MK.of_inj hx;have e2:=MK.of_inj hy
    subst e1;subst e2
    simp only[Rep] at hu hv
    rw[hu.1,hv.1]
    exact⟨by simp[Instr.sameNow,SV.keyEq],fun h=>by simp only[SV.keyEq,beq_iff_eq] at h;rw[h]⟩
   |agg l=>cases k<;>simp[keyIs,MK.of] at hy
   |_=>cases hy
  |agg l=>cases k<;>simp[keyIs,MK.of] at hx
  |_=>cases hx
 ·cases x with
  |str s=>cases y with
   |str r=>
    simp only[Rep] at hu hv
    rw[hu.1,hv.1]
    refine⟨?_,fun h=>by simp only[SV.keyEq,beq_iff_eq] at h;rw[h]⟩
    simp only[Instr.sameNow,SV.keyEq,Option.some.injEq]
    by_cases e:s=r
    ·subst e;rw[(MapKept.bytes_beq _ _).2 rfl];simp
    ·have h1:((ByteArray.mk ⟨s⟩:ByteArray)==ByteArray.mk ⟨r⟩)=false:=by
      cases hb:((ByteArray.mk ⟨s⟩:ByteArray)==ByteArray.mk ⟨r⟩) with
      |false=>rfl
      |true=>exact absurd ((MapKept.bytes_beq _ _).1 hb) (fun h=>e (by cases h;rfl))
     rw[h1];simp[e]
   |_=>cases hy
  |_=>cases hx
theorem find_now {kd:Option MK} {d:TypeDesc} (hd:KeyD kd d) {kx y:SV} {kv uy:Value} (hkx:keyIs kd kx=true) (hkv:Rep c kx kv) (hy:Rep c y uy):∀ {es:List (SV×SV)} {ents:List MapEntry},RepE c es ents→(∀ p∈es,keyIs kd p.1=true)→∀ j:Nat,
 (Instr.findNow d kv ents j=some none∧findSV es kx=none∧setSV es kx y=es++[(kx,y)])∨
 (∃ n e x,Instr.findNow d kv ents j=some (some (j+n,e.val))∧ents[n]? =some e∧e.key=kv∧findSV es kx=some x∧Rep c x e.val∧RepE c (setSV es kx y) (ents.set n { e with key:=kv,val:=uy}))
 |[],ents,h,_,j=>by simp only[RepE] at h;subst h;exact .inl ⟨rfl,rfl,rfl⟩
 |(q,x)::es,ents,h,hk,j=>by
  simp only[RepE] at h
  obtain⟨e,es',h1,h2,h3,rfl⟩:=h
  have hq:=hk _ (List.mem_cons_self ..)
  obtain⟨k1,k2⟩:=keyEq_rep hd hkx hq hkv h1
  cases hb:SV.keyEq kx q with
  |true=>
   refine .inr ⟨0,e,x,by simp[Instr.findNow,k1,hb],rfl,(k2 hb).symm,by simp[findSV,hb],h2,?_⟩
   simp only[setSV,hb,if_true,List.set_cons_zero,RepE]
   exact⟨_,es',hkv,hy,h3,rfl⟩
  |false=>
   rcases find_now hd hkx hkv hy h3 (fun p hp=>hk p (List.mem_cons_of_mem _ hp)) (j+1) with⟨a1,a2,a3⟩|⟨n,e',x',a1,a2,a3,a4,a5,a6⟩
   ·exact .inl ⟨by simp[Instr.findNow,k1,hb,a1],by simp[findSV,hb,a2],by simp[setSV,hb,a3]⟩
   ·refine .inr ⟨n+1,e',x',by simp[Instr.findNow,k1,hb,a1];omega,by simpa using a2,a3,by simp[findSV,hb,a4],a5,?_⟩
    simp only[setSV,hb,Bool.false_eq_true,if_false,List.set_cons_succ,RepE]
    exact⟨e,_,h1,h2,a6,rfl⟩
theorem pair_rep {x:SV} {v:Value} (h:keyIs (some .pair) x=true) (hr:Rep c x v):∃ a b,x= .agg [.str a,.str b]∧v= .agg #[.string ⟨⟨a⟩⟩,.string ⟨⟨b⟩⟩]:=by
 cases x with
 |int i n=>simp only[keyIs,decide_eq_true_eq] at h;exact(MK.of_pair h).elim
 |agg l=>
  match l,h with
  |[.str a,.str b],_=>
   simp only[Rep] at hr
   obtain⟨vs,h1,_,rfl⟩:=hr
   obtain⟨u,us,a1,a2,rfl⟩:=RepL.cons_iff.1 h1
   obtain⟨w,ws,b1,b2,rfl⟩:=RepL.cons_iff.1 a2
   have:=b2.length
   have:ws=[]:=by cases ws with
    |nil=>rfl
    |cons _ _=>simp at this
   subst this
   simp only[Rep] at a1 b1
   exact⟨a,b,rfl,by rw[a1.1,b1.1]⟩
 |_=>cases h
theorem plain_of_str {q:Nat} (h:P.underlying q=some .string):P.plainKey q=true:=by simp[Program.plainKey,h]
theorem pair_equal {w:World} {kt q:Nat} {i:TypeInfo} (h1:P.underlying kt=some (.array 2 q)) (h2:P.underlying q=some .string) (h3:P.info? q=some i) (h4:P.cellsOf q=1) (a b x y:List UInt8):
 (Op.equal kt (.agg #[.string ⟨⟨a⟩⟩,.string ⟨⟨b⟩⟩]) (.agg #[.string ⟨⟨x⟩⟩,.string ⟨⟨y⟩⟩])).run P w= .ok (a==x&&b==y) w:=by
 have hr:List.range 2=[0,1]:=rfl
 show(Op.equalIn (9999+1) _ _ _).run P w=_
 rw[run_equalIn_array w 9999 _ _ h1 h3,h4,hr]
 have p0:∀ s t:List UInt8,(part q #[.string ⟨⟨s⟩⟩,.string ⟨⟨t⟩⟩] (0*1)).run P w= .ok (.string ⟨⟨s⟩⟩) w:=fun s t=>run_part_plain w (plain_of_str h2) (by simp)
 have p1:∀ s t:List UInt8,(part q #[.string ⟨⟨s⟩⟩,.string ⟨⟨t⟩⟩] (1*1)).run P w= .ok (.string ⟨⟨t⟩⟩) w:=fun s t=>run_part_plain w (plain_of_str h2) (by simp)
 have e:∀ s t:List UInt8,(Op.equalIn (9998+1) q (.string ⟨⟨s⟩⟩) (.string ⟨⟨t⟩⟩)).run P w= .ok (s==t) w:=fun s t=>by
  rw[run_equalIn_string _ _ _ _ _ h2,toList_mk,toList_mk]
 have e':∀ s t:List UInt8,(Op.equalIn 9999 q (.string ⟨⟨s⟩⟩) (.string ⟨⟨t⟩⟩)).run P w= .ok (s==t) w:=e
 simp only[Op.eqItems,Sem.run_bind,p0,p1,e',Result.andThen_ok]
 cases (a==x) with
 |false=>simp
 |true=>
  simp only[Bool.not_true,Bool.false_eq_true,if_false,Sem.run_bind,p0,p1,e',Result.andThen_ok]
  cases (b==y)<;>simp
theorem pair_check {w:World} {kt q:Nat} {i:TypeInfo} (h1:P.underlying kt=some (.array 2 q)) (h2:P.underlying q=some .string) (h3:P.info? q=some i) (h4:P.cellsOf q=1) (a b:List UInt8) (em:Bool):
 (Instr.checkKey em 10000 kt (.agg #[.string ⟨⟨a⟩⟩,.string ⟨⟨b⟩⟩])).run P w= .ok () w:=by
 have p0:∀ s t:List UInt8,(part q #[.string ⟨⟨s⟩⟩,.string ⟨⟨t⟩⟩] (0*1)).run P w= .ok (.string ⟨⟨s⟩⟩) w:=fun s t=>run_part_plain w (plain_of_str h2) (by simp)
 have p1:∀ s t:List UInt8,(part q #[.string ⟨⟨s⟩⟩,.string ⟨⟨t⟩⟩] (1*1)).run P w= .ok (.string ⟨⟨t⟩⟩) w:=fun s t=>run_part_plain w (plain_of_str h2) (by simp)
 have k:∀ s:List UInt8,(Instr.checkKey em (9998+1) q (.string ⟨⟨s⟩⟩)).run P w= .ok () w:=fun s=>MapKept.run_checkKey h2 (by trivial) em 9998
 show(Instr.checkKey em (9999+1) _ _).run P w=_
 rw[Instr.checkKey]
 simp only[Sem.run_bind,run_underlying h1,Result.andThen_ok,run_sizeOf w h3,h4]
 simp only[Std.Legacy.Range.forIn_eq_forIn_range',Std.Legacy.Range.size,Nat.sub_zero,Nat.add_one_sub_one,Nat.div_one]
 have hr:List.range' 0 2=[0,1]:=rfl
 simp only[hr,List.forIn_cons,List.forIn_nil,Sem.run_bind,Sem.run_pure,Result.andThen_ok,p0,p1,k,run_sizeOf w h3,h4]
theorem pair_find {w:World} {kt q:Nat} {i:TypeInfo} (h1:P.underlying kt=some (.array 2 q)) (h2:P.underlying q=some .string) (h3:P.info? q=some i) (h4:P.cellsOf q=1) {kx y:SV} {kv uy:Value} (hkx:keyIs (some .pair) kx=true) (hkv:Rep c kx kv) (hy:Rep c y uy):∀ {es:List (SV×SV)} {ents:List MapEntry},RepE c es ents→(∀ p∈es,keyIs (some .pair) p.1=true)→∀ j:Nat,
 ((Instr.findAsking kt kv ents j).run P w= .ok none w∧findSV es kx=none∧setSV es kx y=es++[(kx,y)])∨
 (∃ n e x,(Instr.findAsking kt kv ents j).run P w= .ok (some (j+n,e.val)) w∧ents[n]? =some e∧e.key=kv∧findSV es kx=some x∧Rep c x e.val∧RepE c (setSV es kx y) (ents.set n { e with key:=kv,val:=uy}))
 |[],ents,h,_,j=>by simp only[RepE] at h;subst h;exact .inl ⟨by simp[Instr.findAsking],rfl,rfl⟩
 |(qx,x)::es,ents,h,hk,j=>by
  simp only[RepE] at h
  obtain⟨e,es',g1,g2,g3,rfl⟩:=h
  have hq:keyIs (some .pair) qx=true:=hk _ (List.mem_cons_self ..)
  obtain⟨a,b,ea,eb⟩:=pair_rep hkx hkv
  obtain⟨s,t,es1,es2⟩:=pair_rep hq g1
  have k1:=pair_equal (P:=P) (w:=w) h1 h2 h3 h4 a b s t
  rw[← eb,← es2] at k1
  have k3:SV.keyEq kx qx=(a==s&&b==t):=by rw[ea,es1];rfl
  have k2:SV.keyEq kx qx=true→e.key=kv:=fun hh=>by
   rw[k3,Bool.and_eq_true,beq_iff_eq,beq_iff_eq] at hh
   rw[eb,es2,hh.1,hh.2]
  rw[← k3] at k1
  cases hb:SV.keyEq kx qx with
  |true=>
   rw[hb] at k1
   refine .inr ⟨0,e,x,by simp[Instr.findAsking,k1],rfl,k2 hb,by simp[findSV,hb],g2,?_⟩
   simp only[setSV,hb,if_true,List.set_cons_zero,RepE]
   exact⟨_,es',hkv,hy,g3,rfl⟩
  |false=>
   rw[hb] at k1
   rcases pair_find h1 h2 h3 h4 hkx hkv hy g3 (fun p hp=>hk p (List.mem_cons_of_mem _ hp)) (j+1) with⟨a1,a2,a3⟩|⟨n,e',x',a1,a2,a3,a4,a5,a6⟩
   ·exact .inl ⟨by simp only[Instr.findAsking,Sem.run_bind,k1,Result.andThen_ok,Bool.false_eq_true,if_false];exact a1,by simp[findSV,hb,a2],by simp[setSV,hb,a3]⟩
   ·refine .inr ⟨n+1,e',x',by simp only[Instr.findAsking,Sem.run_bind,k1,Result.andThen_ok,Bool.false_eq_true,if_false];rw[a1,show j+1+n=j+(n+1) by omega],by simpa using a2,a3,by simp[findSV,hb,a4],a5,?_⟩
    simp only[setSV,hb,Bool.false_eq_true,if_false,List.set_cons_succ,RepE]
    exact⟨e,_,g1,g2,a6,rfl⟩
theorem KeyTy.run {kd:Option MK} {kt:Nat} (h:KeyTy P kd kt) {kx:SV} {kv:Value} (hkx:keyIs kd kx=true) (hkv:Rep c kx kv) (w:World) (em:Bool):
 (Instr.checkKey em 10000 kt kv).run P w= .ok () w∧(Instr.keyThatStays kv kv).run P w= .ok kv w:=by
 rcases h with⟨j,rfl,h⟩|⟨rfl,h⟩|⟨q,i,rfl,h1,h2,h3,h4⟩
 ·have:=keyIs_rep (.inl ⟨j,rfl,rfl⟩) hkx hkv
  exact⟨MapKept.run_checkKey h this em 9999,MapKept.run_keyThatStays this⟩
 ·have:=keyIs_rep (.inr ⟨rfl,rfl⟩) hkx hkv
  exact⟨MapKept.run_checkKey h this em 9999,MapKept.run_keyThatStays this⟩
 ·obtain⟨a,b,ea,eb⟩:=pair_rep hkx hkv
  subst eb
  refine⟨pair_check h1 h2 h3 h4 a b em,?_⟩
  simp[Instr.keyThatStays,Instr.sameBits,(MapKept.bytes_beq _ _).2]
theorem find_ok {kd:Option MK} {kt:Nat} (hT:KeyTy P kd kt) {kx y:SV} {kv uy:Value} (hkx:keyIs kd kx=true) (hkv:Rep c kx kv) (hy:Rep c y uy) {es:List (SV×SV)} {ents:List MapEntry} (h:RepE c es ents) (hk:∀ p∈es,keyIs kd p.1=true) (w:World):
 ((Instr.findKey kt kv ents).run P w= .ok none w∧findSV es kx=none∧setSV es kx y=es++[(kx,y)])∨
 (∃ n e x,(Instr.findKey kt kv ents).run P w= .ok (some (n,e.val)) w∧ents[n]? =some e∧e.key=kv∧findSV es kx=some x∧Rep c x e.val∧RepE c (setSV es kx y) (ents.set n { e with key:=kv,val:=uy})):=by
 rcases hT with⟨j,rfl,hu⟩|⟨rfl,hu⟩|⟨q,i,rfl,h1,h2,h3,h4⟩
 ·rcases find_now (.inl ⟨j,rfl,rfl⟩) hkx hkv hy h hk 0 with⟨a1,a2,a3⟩|⟨n,e,x,a1,a2⟩
  ·exact .inl ⟨MapKept.run_findKey hu a1,a2,a3⟩
  ·rw[Nat.zero_add] at a1;exact .inr ⟨n,e,x,MapKept.run_findKey hu a1,a2⟩
 ·rcases find_now (.inr ⟨rfl,rfl⟩) hkx hkv hy h hk 0 with⟨a1,a2,a3⟩|⟨n,e,x,a1,a2⟩
  ·exact .inl ⟨MapKept.run_findKey hu a1,a2,a3⟩
  ·rw[Nat.zero_add] at a1;exact .inr ⟨n,e,x,MapKept.run_findKey hu a1,a2⟩
 ·have hw:=run_findKey_eq (P:=P) w (k:=kt) (by rw[h1]) kv ents
  rw[hw]
  rcases pair_find (w:=w) h1 h2 h3 h4 hkx hkv hy h hk 0 with⟨a1,a2,a3⟩|⟨n,e,x,a1,a2⟩
  ·exact .inl ⟨a1,a2,a3⟩
  ·rw[Nat.zero_add] at a1;exact .inr ⟨n,e,x,a1,a2⟩
theorem mapTypes_desc {t:Nat} {p:Option MK×TI} (hT:TabOK P T) (h:mapTypes T t=some p):∃ kt et,P.underlying t=some (.map kt et)∧tiOK P et p.2∧KeyTy P p.1 kt:=
 mapTypes_some hT h
theorem RepE.zip {c:Cx}:∀ {ks vs:List SV} {l:List MapEntry},RepL c ks (l.map (·.key))→RepL c vs (l.map (·.val))→RepE c (ks.zip vs) l
 |[],vs,l,h,_=>by
  have h1:=h.length
  have:l=[]:=by cases l with
   |nil=>rfl
   |cons e l=>simp at h1
  subst this
  simp[RepE]
 |x::ks,[],l,h,h'=>by
  have h1:=h.length
  have h2:=h'.length
  simp only[List.length_map,List.length_cons,List.length_nil] at h1 h2
  omega
 |x::ks,y::vs,[],h,_=>by
  have h1:=h.length
  simp at h1
 |x::ks,y::vs,e::l,h,h'=>by
  obtain⟨u,us,a1,a2,a3⟩:=RepL.cons_iff.1 h
  obtain⟨u',us',b1,b2,b3⟩:=RepL.cons_iff.1 h'
  simp only[List.map_cons,List.cons.injEq] at a3 b3
  obtain⟨rfl,rfl⟩:=a3
  obtain⟨rfl,rfl⟩:=b3
  simp only[List.zip_cons_cons,RepE]
  exact⟨e,l,a1,b1,RepE.zip a2 b2,rfl⟩
theorem mapOf_some (hc:HeapOK c) {kd:Option MK} {m:SV} {v:Value} (hm:Rep c m v) {es:List (SV×SV)} (h:mapOf c.H kd m=some es):
 (v= .map none∧es=[])∨(∃ id b ents clk,m= .map id∧c.H[id]? =some (.map kd es)∧c.θ id=some (b,0)∧v= .map (some b)∧c.w.heap[b]? =some (.map ents clk)∧RepE c es ents.toList∧(∀ p∈es,keyIs kd p.1=true)∧bornOK ents.toList clk)∨
 ((∀ id,m≠ .map id)∧∃ b ents clk,v= .map (some b)∧c.w.heap[b]? =some (.map ents clk)∧RepE c es ents.toList∧(∀ p∈es,keyIs kd p.1=true)):=by
 cases m with
 |nilmap=>simp only[mapOf,Option.some.injEq] at h;simp only[Rep] at hm;exact .inl ⟨hm,h.symm⟩
 |map id=>
  simp only[mapOf] at h
  split at h
  ·rename_i kd' es' hb
   split at h
   ·rename_i e;subst e;cases h
    simp only[Rep,hb] at hm
    obtain⟨_,b,h1,h2⟩:=hm
    obtain⟨b',ents,clk,h3,h4,h5,h6,h7⟩:=hc.blk id _ hb
    rw[h1] at h3;cases h3
    exact .inr (.inl ⟨id,b,ents,clk,rfl,hb,h1,h2,h4,h5,h6,h7⟩)
   ·cases h
  ·cases h
 |imap b clk born kd' ks vs=>
  simp only[mapOf] at h
  split at h
  ·rename_i e;subst e;cases h
   simp only[Rep] at hm
   obtain⟨h0,h1,ents,h2,h3,h4,h5,h6,h7⟩:=hm
   exact .inr (.inr ⟨(fun id e=>by cases e),b,ents,clk,h0,h2,RepE.zip h5 h6,(fun p hp=>h7 p.1 (List.of_mem_zip (a:=p.1) (b:=p.2) hp).1)⟩)
  ·cases h
 |_=>simp[mapOf] at h
theorem wp_lookup {t:Nat} {x y:Operand} {ok:Bool} (hT:TabOK P T) (hi:Inv G nt B c env a) (ho:o.op= .lookup t x y ok) (h:exOp P G T own env c.H o.dst o.type (.lookup t x y ok) k)
 (hk:∀ x c' u,k x c'.H→HeapOK c'→Rep c' x u→Grow c c'→next (a.put o.dst u) c'.w):o.wpIn (FR ρ) 0 P a c.w next Q:=by
 obtain⟨p,h1,m,h2,es,h3,kx,h4,h5,h6⟩:=h
 obtain⟨kt,et,u1,u2,u3⟩:=mapTypes_desc hT h1
 have hkey:=ev_ok hi h4
 have k1:=fun em=>(u3.run h5 hkey c.w em).1
 obtain⟨_,info,z,i1,i2,i3,i4,i5,i6⟩:=u2
 have hz:=(i5 c).1
 have hzero:∀ w,(zeroValue et).run P w= .ok z w:=fun w=>by simp[zeroValue,typeInfo,i1,i4]
 have hd:∀ c,o.op≠ .defer c:=by rw[ho];intro _ e;cases e
 have fin:∀ (x:SV) (u:Value) (b:Bool),Rep c x u→(findSV es kx).getD p.2.zero=x→(findSV es kx).isSome=b→
  (execOp a.eval o).run P c.w= .ok (.value (if ok then .tuple #[u,.bool b] else u)) c.w→o.wpIn (FR ρ) 0 P a c.w next Q:=fun x u b e1 e2 e3 e4=>by
  rw[e2,e3] at h6
  refine wp_pure hi hk hd ?_ h6 e4
  cases ok with
  |true=>simp only[if_true,Rep];exact⟨[u,.bool b],RepL.mk_cons e1 (RepL.mk_cons (rep_bool c b) RepL.mk_nil),rfl⟩
  |false=>exact e1
 have hfnd:∀ b ents clk,a.eval x= .map (some b)→c.w.heap[b]? =some (.map ents clk)→RepE c es ents.toList→(∀ q∈es,keyIs p.1 q.1=true)→o.wpIn (FR ρ) 0 P a c.w next Q:=fun b ents clk e3 e4 e5 e6=>by
  rcases find_ok u3 h5 hkey Rep.undef e5 e6 c.w with⟨a1,a2,_⟩|⟨n,e,x',a1,a2,a3,a4,a5,_⟩
  ·refine fin p.2.zero z false hz (by rw[a2];rfl) (by rw[a2];rfl) ?_
   cases ok<;>simp[execOp,ho,Instr.lookup,run_underlying u1,e3,MapKept.run_getObj_map e4,k1,a1,hzero]
  ·refine fin x' e.val true a5 (by rw[a4];rfl) (by rw[a4];rfl) ?_
   cases ok<;>simp[execOp,ho,Instr.lookup,run_underlying u1,e3,MapKept.run_getObj_map e4,k1,a1,hzero]
 rcases mapOf_some hi.heap (ev_ok hi h2) h3 with⟨e1,rfl⟩|⟨id,b,ents,clk,rfl,e1,e2,e3,e4,e5,e6,e7⟩|⟨_,b,ents,clk,e3,e4,e5,e6⟩
 ·refine fin p.2.zero z false hz rfl rfl ?_
  have hf:(Instr.findKey kt (a.eval y) []).run P c.w= .ok none c.w:=by
   rcases find_ok u3 h5 hkey Rep.undef (es:=[]) (ents:=[]) (by simp only[RepE]) (by simp) c.w with⟨a1,_⟩|⟨n,e,_,_,a2,_⟩
   ·exact a1
   ·simp at a2
  cases ok<;>simp[execOp,ho,Instr.lookup,run_underlying u1,e1,k1,hf,hzero]
 ·exact hfnd b ents clk e3 e4 e5 e6
 ·exact hfnd b ents clk e3 e4 e5 e6
theorem RepE.snoc {x y:SV} {e:MapEntry} (h1:Rep c x e.key) (h2:Rep c y e.val):∀ {es:List (SV×SV)} {ents:List MapEntry},RepE c es ents→RepE c (es++[(x,y)]) (ents++[e])
 |[],ents,h=>by simp only[RepE] at h;subst h;simp only[List.nil_append,RepE];exact⟨e,[],h1,h2,rfl,rfl⟩
 |(q,z)::es,ents,h=>by
  simp only[RepE] at h
  obtain⟨e',es',a1,a2,a3,rfl⟩:=h
  simp only[List.cons_append,RepE]
  exact⟨e',_,a1,a2,RepE.snoc h1 h2 a3,rfl⟩
theorem setSV_keys {kd:Option MK} {kx y:SV} (hk:keyIs kd kx=true):∀ {es:List (SV×SV)},(∀ p∈es,keyIs kd p.1=true)→∀ p∈setSV es kx y,keyIs kd p.1=true
 |[],_,p,hp=>by simp only[setSV,List.mem_singleton] at hp;subst hp;exact hk
 |(q,z)::es,h,p,hp=>by
  simp only[setSV] at hp
  split at hp
  ·rcases List.mem_cons.1 hp with rfl|hp
   ·exact hk
   ·exact h p (List.mem_cons_of_mem _ hp)
  ·rcases List.mem_cons.1 hp with rfl|hp
   ·exact h _ (List.mem_cons_self ..)
   ·exact setSV_keys hk (fun p hp=>h p (List.mem_cons_of_mem _ hp)) p hp
theorem wp_mapUpdate {t:Nat} {x y z:Operand} (hT:TabOK P T) (hi:Inv G nt B c env a) (ho:o.op= .mapUpdate t x y z∨o.op= .insert t x y z) (h:exOp P G T own env c.H o.dst o.type (.mapUpdate t x y z) k)
 (hk:∀ x c' u,k x c'.H→HeapOK c'→Rep c' x u→Grow c c'→next (a.put o.dst u) c'.w):o.wpIn (FR ρ) 0 P a c.w next Q:=by
 obtain⟨p,h1,m,h2,h3⟩:=h
 obtain⟨kt,et,u1,u2,u3⟩:=mapTypes_desc hT h1
 have hd:∀ c,o.op≠ .defer c:=by rcases ho with ho|ho<;>(rw[ho];intro _ e;cases e)
 cases m with
 |map id0=>
  obtain⟨es,h3,kx,h4,v,h5,h6,h7⟩:=h3
  have hkey:=ev_ok hi h4
  have hval:=ev_ok hi h5
  have k1:=u3.run h6 hkey c.w false
  rcases mapOf_some hi.heap (ev_ok hi h2) h3 with⟨e1,rfl⟩|⟨id,b,ents,clk,e0,e1,e2,e3,e4,e5,e6,e7⟩|⟨e0,_⟩
  ·have:=ev_ok hi h2
   simp only[mapOf] at h3
   split at h3
   ·rename_i kd' es' hb
    simp only[Rep,hb] at this
    obtain⟨_,b,_,hb2⟩:=this
    rw[e1] at hb2;cases hb2
   ·cases h3
  ·cases e0
   have hb:b<c.w.heap.size:=(Array.getElem?_eq_some_iff.1 e4).1
   have key:∀ ents' clk',RepE c (setSV es kx v) ents'.toList→bornOK ents'.toList clk'→(execOp a.eval o).run P c.w= .ok .skip { c.w with heap:=c.w.heap.setIfInBounds b (.map ents' clk')}→o.wpIn (FR ρ) 0 P a c.w next Q:=fun ents' clk' q1 q2 q3=>by
    have hnew:(c.w.heap.setIfInBounds b (.map ents' clk'))[b]? =some (.map ents' clk'):=by simp[hb]
    obtain⟨g1,g2⟩:=Cx.turn hi.heap (w':={ c.w with heap:=c.w.heap.setIfInBounds b (.map ents' clk')}) e1 rfl (B':= .map p.1 (setSV es kx v)) (c.θ id0)
     ⟨⟨_,rfl⟩,rfl⟩ (fun k' hk' hno=>by
      have:k'≠b:=fun e=>hno 0 (by rw[e2,e])
      show(c.w.heap.setIfInBounds b _)[k']? =_
      simp[Ne.symm this]) (by simp) rfl rfl rfl (fun b' cs Ty fr hb'=>by
      refine⟨cs,fr,?_,rfl⟩
      have:b'≠b:=fun e=>by rw[e,e4] at hb';cases hb'
      show(c.w.heap.setIfInBounds b _)[b']? =_
      rw[← hb'];simp[Ne.symm this])
     (fun hg=>⟨b,ents',clk',by simp[e2],hnew,RepE.grow hg _ _ q1,setSV_keys h6 e6,q2⟩)
    exact wp_skp hd q3 (hk .undef (c.upd id0 (.map p.1 (setSV es kx v)) (c.θ id0) _) undef h7 g2 Rep.undef g1)
   rcases find_ok u3 h6 hkey hval e5 e6 c.w with⟨a1,a2,a3⟩|⟨n,e,x',a1,a2,a3,a4,a5,a6⟩
   ·refine key (ents.push { key:=a.eval y,val:=a.eval z,born:=clk}) (clk+1) ?_ ?_ ?_
    ·rw[a3,Array.toList_push]
     exact RepE.snoc hkey hval e5
    ·rw[Array.toList_push]
     refine⟨fun q hq=>?_,?_⟩
     ·rcases List.mem_append.1 hq with hq|hq
      ·have:=e7.1 q hq;omega
      ·simp at hq;subst hq;simp
     ·rw[List.map_append,List.nodup_append]
      refine⟨⟨e7.2.1,by simp,fun q hq r hr=>?_⟩,by rw[List.length_append,← e7.2.2.1];rfl,by rw[e7.2.2.2,List.length_append,List.length_singleton,List.range_succ,← e7.2.2.1];rfl⟩
      simp only[List.map_cons,List.map_nil,List.mem_singleton] at hr
      obtain⟨e',he',rfl⟩:=List.mem_map.1 hq
      have:=e7.1 e' he';omega
    ·have hck:=k1.1
     have hfk:=a1
     have hgo:=MapKept.run_getObj_map (P:=P) e4
     have hso:=MapKept.run_setObj_map (P:=P) (.map (ents.push { key:=a.eval y,val:=a.eval z,born:=clk}) (clk+1)) e4
     rcases ho with ho|ho<;>simp only[execOp,ho,Instr.mapUpdate,e3,Sem.run_bind,run_underlying u1,Result.andThen_ok,hgo,hck,hfk,hso,Sem.run_pure]
   ·have hel:(ents.modify n fun e'=>{ e' with key:=a.eval y,val:=a.eval z}).toList=ents.toList.set n { e with key:=a.eval y,val:=a.eval z}:=by
     apply List.ext_getElem?
     intro j
     rw[Array.getElem?_toList,Array.getElem?_modify,List.getElem?_set]
     by_cases ej:n=j
     ·subst ej
      have:n<ents.toList.length:=(List.getElem?_eq_some_iff.1 a2).1
      rw[if_pos rfl,if_pos rfl,if_pos this,← Array.getElem?_toList,a2];rfl
     ·rw[if_neg ej,if_neg ej,Array.getElem?_toList]
    refine key (ents.modify n fun e'=>{ e' with key:=a.eval y,val:=a.eval z}) clk ?_ ?_ ?_
    ·rw[hel];exact a6
    ·rw[hel]
     have hborn:(ents.toList.set n { e with key:=a.eval y,val:=a.eval z}).map (·.born)=ents.toList.map (·.born):=by
      rw[List.map_set]
      apply List.ext_getElem?
      intro j
      rw[List.getElem?_set]
      by_cases ej:n=j
      ·subst ej
       have:n<(ents.toList.map (·.born)).length:=by rw[List.length_map];exact(List.getElem?_eq_some_iff.1 a2).1
       rw[if_pos rfl,if_pos this,List.getElem?_map,a2];rfl
      ·rw[if_neg ej]
     refine⟨fun q hq=>?_,by rw[hborn,List.length_set];exact e7.2⟩
     rcases List.mem_or_eq_of_mem_set hq with hq|rfl
     ·exact e7.1 q hq
     ·exact e7.1 e (List.mem_of_getElem? a2)
    ·have hn:n<ents.size:=by have:=(List.getElem?_eq_some_iff.1 a2).1;simpa using this
     have hget:ents[n]? =some e:=by rw[← Array.getElem?_toList];exact a2
     have hstay:(Instr.keyThatStays ((ents[n]?.map (·.key)).getD (a.eval y)) (a.eval y)).run P c.w= .ok (a.eval y) c.w:=by
      rw[hget];simp only[Option.map_some,Option.getD_some,a3];exact k1.2
     have hck:=k1.1
     have hfk:=a1
     have hgo:=MapKept.run_getObj_map (P:=P) e4
     have hso:=MapKept.run_setObj_map (P:=P) (.map (ents.modify n fun e'=>{ e' with key:=a.eval y,val:=a.eval z}) clk) e4
     rcases ho with ho|ho<;>simp only[execOp,ho,Instr.mapUpdate,e3,Sem.run_bind,run_underlying u1,Result.andThen_ok,hgo,hck,hfk,hstay,hso,Sem.run_pure]
  ·exact absurd rfl (e0 id0)
 |_=>exact h3.elim
end
end
section
section
variable {P:Program} {G:Gl} {T:Tab} {own:List Nat} {nt B:Nat} {c:Cx} {env:List (Nat×SV)} {a:Act} {ρ:Option Nat}
variable {o:Oper} {next:Act→World→Prop} {Q:Exit→Act→World→Prop} {k:SV→List Blk→Prop}
theorem fold_list (off:Nat):∀ (l:List Value) (k:Nat) (cs:Array Value),off+k+l.length≤cs.size→
 ((l.zipIdx k).foldl (fun(cs:Array Value) (p:Value×Nat)=>cs.setIfInBounds (off+p.2) p.1) cs).toList=cs.toList.take (off+k)++l++cs.toList.drop (off+k+l.length)
 |[],k,cs,_=>by simp
 |x::l,k,cs,h=>by
  simp only[List.zipIdx_cons,List.foldl_cons]
  rw[fold_list off l (k+1) (cs.setIfInBounds (off+k) x) (by simp at h ⊢;omega)]
  simp only[Array.toList_setIfInBounds,List.length_cons]
  have hl:off+k<cs.toList.length:=by simp at h ⊢;omega
  rw[List.take_set,List.drop_set_of_lt (by omega)]
  rw[show off+(k+1)=(off+k)+1 by omega,List.take_add_one,List.getElem?_eq_getElem hl]
  simp only[Option.toList_some]
  rw[List.set_append_right _ _ (by simp;omega)]
  have:(cs.toList.take (off+k)).length=off+k:=by simp at hl ⊢;omega
  simp only[this,Nat.sub_self,List.set_cons_zero]
  rw[show off+k+1+l.length=off+k+(l.length+1) by omega]
  simp
theorem fold_arr (off:Nat) (v cs:Array Value) (h:off+v.size≤cs.size):
 (v.zipIdx.foldl (fun(cs:Array Value) (p:Value×Nat)=>cs.setIfInBounds (off+p.2) p.1) cs).toList=cs.toList.take off++v.toList++cs.toList.drop (off+v.size):=by
 rw[← Array.foldl_toList,Array.toList_zipIdx]
 have:=fold_list off v.toList 0 cs (by simpa using h)
 simpa using this
theorem fill_step {place:Nat→Option (Nat×Nat)} {cs:Array Value} {j off sz:Nat} {v:Value} {rest:List (Nat×Value)} (hp:place j=some (off,sz)) (h1:v.cells.size=sz) (h2:off+v.cells.size≤cs.size):
 ∃ cs',Instr.fill place cs ((j,v)::rest)=Instr.fill place cs' rest∧cs'.toList=cs.toList.take off++v.cells.toList++cs.toList.drop (off+v.cells.size):=by
 refine⟨_,?_,fold_arr off v.cells cs h2⟩
 simp only[Instr.fill,hp]
 rw[if_neg (by simp;omega)]
def placeOf (T:Tab) (d:TD) (j:Nat):Option (Nat×Nat):=
 match d with
 | .struct fs _=>match fs[j]? with
  |some (off,ft)=>(T.get ft).map fun i=>(off,i.size)
  |none=>none
 | .array _ e=>(T.get e).map fun i=>(j*i.size,i.size)
 |_=>none
theorem fits_leaf {i:TI} {x:SV} (h:fits i x=true):x.leaf=true∨x.isAgg=true:=by
 unfold fits at h
 split at h
 ·simp only[Bool.and_eq_true] at h;exact .inr h.1
 ·simp only[Bool.and_eq_true] at h;exact .inl h.1
theorem subPut_agg {fs:List SV} {off:Nat} {y z:SV} (h:subPut (.agg fs) off y=some z):∃ gs,z= .agg gs:=by
 unfold subPut at h
 split at h
 ·rename_i hc;cases h
  cases y with
  |agg ys=>exact⟨ys,rfl⟩
  |_=>exact absurd hc.2.2.1 (by simp[SV.isAgg])
 ·simp only at h
  split at h
  ·split at h
   ·cases h;exact⟨_,rfl⟩
   ·cases h
  ·split at h
   ·cases h;exact⟨_,rfl⟩
   ·cases h
theorem fill_ok (hi:Inv G nt B c env a) {d:TD} {place:Nat→Option (Nat×Nat)} (hpl:∀ j p,placeOf T d j=some p→place j=some p):∀ (parts:List (Nat×Operand)) {ps:List (Nat×SV)} {fs:List SV} {y:SV} {cs:Array Value},
 partsOf T d G env parts=some ps→Rep c (.agg fs) (.agg cs)→putAll (.agg fs) ps=some y→∃ cells,Instr.fill place cs (parts.map fun p=>(p.1,a.eval p.2))=some cells∧Rep c y (.agg cells)
 |[],ps,fs,y,cs,h,hr,hp=>by
  simp only[partsOf,Option.some.injEq] at h;subst h
  simp only[putAll,Option.some.injEq] at hp;subst hp
  exact⟨cs,rfl,hr⟩
 |(j,o)::parts,ps,fs,y,cs,h,hr,hp=>by
  simp only[partsOf] at h
  split at h
  ·rename_i off ft hoff
   split at h
   ·rename_i i hti
    split at h
    ·rename_i x hx
     split at h
     ·rename_i hf
      split at h
      ·rename_i l hl
       cases h
       simp only[putAll] at hp
       split at hp
       ·rename_i z hz
        have hxr:=ev_ok hi hx
        obtain⟨f1,f2,_,_⟩:=hxr.fits_cells hf
        have hplace:placeOf T d j=some (off,i.size):=by
         unfold placeOf
         cases d with
         |struct fl=>
          simp only at hoff ⊢
          split at hoff
          ·rename_i off' ft' he;cases hoff;(first|rw[he]|skip);simp[hti]
          ·cases hoff
         |array n e=>
          simp only at hoff ⊢
          split at hoff
          ·rename_i i' he;cases hoff;rw[hti] at he;cases he;rw[hti];rfl
          ·cases hoff
         |_=>cases hoff
        obtain⟨u',g1,g2,g3,g4,g5⟩:=subPut_ok hr hxr (fits_leaf hf) hz
        obtain⟨cs',e1,e2⟩:=fill_step (rest:=parts.map fun p=>(p.1,a.eval p.2)) (hpl j _ hplace) f2 g4
        obtain⟨gs,rfl⟩:=subPut_agg hz
        have hu':u'= .agg cs':=by
         obtain⟨vs,_,_,rfl,q4,_⟩:=g1.agg_cells
         have:vs=cs'.toList:=by rw[← q4,g5,e2]
         rw[this]
        rw[hu'] at g1
        obtain⟨cells,k1,k2⟩:=fill_ok hi hpl parts hl g1 hp
        exact⟨cells,e1.trans k1,k2⟩
       ·cases hp
      ·cases h
     ·cases h
    ·cases h
   ·cases h
  ·cases h
theorem tab_places (hT:TabOK P T) {fl:List Field}:(∀ f∈fl,(T.get f.type).isSome=true)→∃ places,fl.mapM (fun f=>(P.info? f.type).map fun i=>(f.offset,i.size))=some places∧
 ∀ (j:Nat) (f:Field),fl[j]? =some f→∀ i,T.get f.type=some i→places[j]? =some (f.offset,i.size):=by
 induction fl with
 |nil=>intro _;exact⟨[],rfl,by simp⟩
 |cons f fl ih=>
  intro h
  obtain⟨pl,h1,h2⟩:=ih (fun g hg=>h g (List.mem_cons_of_mem _ hg))
  obtain⟨i,hi⟩:=Option.isSome_iff_exists.1 (h f (List.mem_cons_self ..))
  obtain⟨info,i1,i2,_⟩:=tiOK_info (hT _ _ hi)
  refine⟨(f.offset,info.size)::pl,by simp[List.mapM_cons,i1,h1],fun j g hg i' hi'=>?_⟩
  cases j with
  |zero=>simp at hg;subst hg;rw[hi] at hi';cases hi';simp[i2]
  |succ j=>simpa using h2 j g (by simpa using hg) i' hi'
theorem wp_build {t:Nat} {parts:Array (Nat×Operand)} (hT:TabOK P T) (hi:Inv G nt B c env a) (ho:o.op= .build t parts) (h:exOp P G T own env c.H o.dst o.type (.build t parts) k)
 (hk:∀ x c' u,k x c'.H→HeapOK c'→Rep c' x u→Grow c c'→next (a.put o.dst u) c'.w):o.wpIn (FR ρ) 0 P a c.w next Q:=by
 obtain⟨i,h1,⟨hkn,hza⟩,ps,h2,v,h3,h4⟩:=h
 obtain⟨hd,info,z,i1,i2,i3,i4,i5,i6⟩:=hT _ _ h1
 have hz:=(i5 c).1
 have hparts:(parts.map fun p=>(p.1,a.eval p.2)).toList=parts.toList.map fun p=>(p.1,a.eval p.2):=by simp
 obtain⟨fs,hfs⟩:∃ fs,i.zero= .agg fs:=by
  cases hzz:i.zero with
  |agg fs=>exact⟨fs,rfl⟩
  |_=>rw[hzz] at hza;cases hza
 rw[hfs] at hz h3
 obtain⟨vs0,_,_,hzv,_,_⟩:=hz.agg_cells
 have hbuilt:∃ cells,P.built t (parts.map fun p=>(p.1,a.eval p.2)).toList=some cells∧Rep c v (.agg cells):=by
  rw[hparts]
  have hz':Rep c (.agg fs) (.agg z.cells):=by rw[hzv] at hz ⊢;exact hz
  cases hdd:i.d with
  |struct fl0 cmp0=>
   rw[hdd] at hd hkn h2
   obtain⟨⟨fl,hu,hfl⟩,_⟩:=hd
   have hall:∀ f∈fl.toList,(T.get f.type).isSome=true:=fun f hf=>by
    simp only[fieldsKnown,List.all_eq_true] at hkn
    exact hkn (f.offset,f.type) (by rw[← hfl];exact List.mem_map.2 ⟨f,hf,rfl⟩)
   obtain⟨places,p1,p2⟩:=tab_places hT hall
   obtain⟨cells,c1,c2⟩:=fill_ok hi (place:=(places.toArray[·]?)) (d:= .struct fl0 cmp0) (fun j p hp=>by
    simp only[placeOf] at hp
    split at hp
    ·rename_i off ft he
     rw[← hfl,List.getElem?_map,Option.map_eq_some_iff] at he
     obtain⟨f,hf,he⟩:=he
     cases he
     simp only[Option.map_eq_some_iff] at hp
     obtain⟨i',hi',rfl⟩:=hp
     simpa using p2 j f hf i' hi'
    ·cases hp) parts.toList h2 hz' h3
   exact⟨cells,by simp only[Program.built,i1,hu,i4,p1];exact c1,c2⟩
  |array n e=>
   rw[hdd] at hd hkn h2
   have hu:P.underlying t=some (.array n e):=hd
   obtain⟨ei,hei⟩:=Option.isSome_iff_exists.1 (show(T.get e).isSome=true from hkn)
   obtain⟨einfo,e1,e2,_⟩:=tiOK_info (hT _ _ hei)
   obtain⟨cells,c1,c2⟩:=fill_ok hi (place:=fun j=>some (j*einfo.size,einfo.size)) (d:= .array n e) (fun j p hp=>by
    simp only[placeOf,hei,Option.map_some,Option.some.injEq] at hp
    subst hp;rw[e2]) parts.toList h2 hz' h3
   exact⟨cells,by simp only[Program.built,i1,hu,i4,e1];exact c1,c2⟩
  |_=>rw[hdd] at hkn;cases hkn
 obtain⟨cells,c1,c2⟩:=hbuilt
 have hrun:=run_build (P:=P) c.w t _ cells c1
 exact wp_pure hi hk (by rw[ho];intro _ e;cases e) c2 h4 (by simp[execOp,ho,hrun])
theorem zeroCells_list (z:Value) (hz:0<z.cells.size) (n:Nat):((Array.range (n*z.cells.size)).map (z.cells[· % z.cells.size]!)).toList=cellsOf (List.replicate n z):=by
 have hu:∀ u∈List.replicate n z,u.cells.size=z.cells.size:=fun u hu=>by rw[List.eq_of_mem_replicate hu]
 apply List.ext_getElem?
 intro j
 by_cases hj:j<n*z.cells.size
 ·have hdiv:j / z.cells.size<n:=(Nat.div_lt_iff_lt_mul hz).2 hj
  have hmod:j % z.cells.size<z.cells.size:=Nat.mod_lt _ hz
  have:=cellsOf_get hu (i:=j / z.cells.size) (u:=z) (by simp[hdiv]) (j:=j % z.cells.size) (x:=z.cells[j % z.cells.size]) (by simp[hmod])
  rw[show j / z.cells.size*z.cells.size+j % z.cells.size=j by rw[Nat.mul_comm];exact Nat.div_add_mod j _] at this
  rw[this]
  simp[hj,hmod]
 ·rw[List.getElem?_eq_none (by simp;omega),List.getElem?_eq_none (by rw[cellsOf_length hu,List.length_replicate];omega)]
theorem list_swap {α:Type} (A M B V:List α) {n m:Nat} (h1:A.length=n) (h2:M.length=m):(A++M++B).take n++V++(A++M++B).drop (n+m)=A++(V++B):=by
 subst h1 h2
 rw[← List.length_append,List.drop_left,List.append_assoc A M B,List.take_left,List.append_assoc]
theorem fillAll_ok (hi:Inv G nt B c env a) {i:TI}:∀ (parts:List (Nat×Operand)) {xs ys:List SV} {vs:List Value} {cs:Array Value},fillAll i G env xs parts=some ys→RepL c xs vs→(∀ u∈vs,u.cells.size=i.size∧okCells u)→cs.toList=cellsOf vs→
 ∃ cells us,Instr.fill (fun j=>some (j*i.size,i.size)) cs (parts.map fun p=>(p.1,a.eval p.2))=some cells∧RepL c ys us∧(∀ u∈us,u.cells.size=i.size∧okCells u)∧cells.toList=cellsOf us
 |[],xs,ys,vs,cs,h,hr,hu,hc=>by
  simp only[fillAll,Option.some.injEq] at h;subst h
  exact⟨cs,vs,rfl,hr,hu,hc⟩
 |(j,o)::parts,xs,ys,vs,cs,h,hr,hu,hc=>by
  simp only[fillAll] at h
  split at h
  ·rename_i x hx
   split at h
   ·rename_i hf
    have hxr:=ev_ok hi hx
    obtain⟨f1,f2,_,_⟩:=hxr.fits_cells hf.1
    have hvl:=hr.length
    obtain⟨e1,e2,e3⟩:=set_split (l:=vs) (j:=j) (List.getElem?_eq_getElem (by omega)) (a.eval o)
    have hA:(cellsOf (vs.take j)).length=j*i.size:=by rw[cellsOf_length (fun u h=>(hu u (List.mem_of_mem_take h)).1),e3]
    have hm:(vs[j]'(by omega)).cells.toList.length=i.size:=by rw[Array.length_toList];exact(hu _ (List.getElem_mem _)).1
    have hcs:cs.toList=cellsOf (vs.take j)++(vs[j]'(by omega)).cells.toList++cellsOf (vs.drop (j+1)):=by
     rw[hc];conv=>lhs;rw[e1,cellsOf_append,cellsOf_cons]
     simp[List.append_assoc]
    have hsz:cs.size=cs.toList.length:=by simp
    obtain⟨cs',g1,g2⟩:=fill_step (place:=fun j=>some (j*i.size,i.size)) (rest:=parts.map fun p=>(p.1,a.eval p.2)) (j:=j) (cs:=cs) rfl f2 (by
     rw[hsz,hcs,List.length_append,List.length_append,hA,hm];omega)
    have g2':cs'.toList=cellsOf (vs.set j (a.eval o)):=by
     rw[g2,e2,cellsOf_append,cellsOf_cons,hcs,f2]
     exact list_swap _ _ _ _ hA hm
    obtain⟨cells,us,k1,k2,k3,k4⟩:=fillAll_ok hi parts h (hr.set j hxr) (fun u hu'=>by
     rcases List.mem_or_eq_of_mem_set hu' with hu'|rfl
     ·exact hu u hu'
     ·exact⟨f2,f1⟩) g2'
    exact⟨cells,us,g1.trans k1,k2,k3,k4⟩
   ·cases h
  ·cases h
theorem RepL.replicate {x:SV} {v:Value} (h:Rep c x v):∀ n,RepL c (List.replicate n x) (List.replicate n v)
 |0=>RepL.mk_nil
 |n+1=>RepL.mk_cons h (RepL.replicate h n)
theorem fillAll_length {i:TI}:∀ (parts:List (Nat×Operand)) {xs ys:List SV},fillAll i G env xs parts=some ys→ys.length=xs.length
 |[],xs,ys,h=>by simp only[fillAll,Option.some.injEq] at h;subst h;rfl
 |(j,o)::parts,xs,ys,h=>by
  simp only[fillAll] at h
  split at h
  ·split at h
   ·rw[fillAll_length parts h];simp
   ·cases h
  ·cases h
theorem wp_buildSlice {t len:Nat} {parts:Array (Nat×Operand)} (hT:TabOK P T) (hi:Inv G nt B c env a) (ho:o.op= .buildSlice t len parts) (h:exOp P G T own env c.H o.dst o.type (.buildSlice t len parts) k)
 (hk:∀ x c' u,k x c'.H→HeapOK c'→Rep c' x u→Grow c c'→next (a.put o.dst u) c'.w):o.wpIn (FR ρ) 0 P a c.w next Q:=by
 obtain⟨e,h1,⟨⟨hsm,hs0⟩,hzf⟩,xs,h2,h3⟩:=h
 obtain⟨ht,hei⟩:=elemOf_some hT h1
 obtain⟨_,info,z,i1,i2,i3,i4,i5,i6⟩:=hei
 obtain⟨z1,z2⟩:=i5 c
 obtain⟨_,zsz,zag,znag⟩:=z1.fits_cells hzf
 have hd:∀ c,o.op≠ .defer c:=by rw[ho];intro _ e;cases e
 have hl:xs.length=len:=by rw[fillAll_length _ h2,List.length_replicate]
 have hpar:(parts.map fun p=>(p.1,a.eval p.2)).toList=parts.toList.map fun p=>(p.1,a.eval p.2):=by simp
 have hrun:∃ cells us,(execOp a.eval o).run P c.w= .ok (.value (.slice (some ⟨c.w.heap.size,0,none⟩) len len)) (c.w.alloc (.cells cells e.1))∧RepL c xs us∧(∀ u∈us,u.cells.size=e.2.size∧okCells u)∧cells.toList=cellsOf us:=by
  by_cases h0:len*e.2.size=0
  ·by_cases hl0:len=0
   ·subst hl0
    have hx0:xs=[]:=List.eq_nil_of_length_eq_zero hl
    subst hx0
    have hp0:parts.toList=[]:=by
     cases hp:parts.toList with
     |nil=>rfl
     |cons p r=>
      obtain⟨j,q⟩:=p
      rw[hp] at h2
      simp[fillAll] at h2
      split at h2<;>simp_all
    have hp0':parts= #[]:=by rw[← Array.toList_inj];simpa using hp0
    refine⟨#[],[],?_,RepL.mk_nil,by simp,rfl⟩
    simp[execOp,ho,Instr.buildSlice,run_underlying ht,sizeOf,typeInfo,i1,hp0',Instr.fill,newRow]
    exact congrArg (fun q=>c.w.alloc (Obj.cells q e.1)) (Array.ext' (by simp))
   ·have:e.2.size=0:=by rcases Nat.mul_eq_zero.1 h0 with h|h<;>omega
    omega
  ·have hpos:0<z.cells.size:=by rw[i6];exact Nat.pos_of_ne_zero fun hh=>h0 (by rw[hh,Nat.mul_zero])
   have hzl:=zeroCells_list z hpos len
   rw[i6] at hzl
   obtain⟨cells,us,k1,k2,k3,k4⟩:=fillAll_ok hi parts.toList (vs:=List.replicate len z) (cs:=(Array.range (len*e.2.size)).map (z.cells[· % z.cells.size]!)) h2 (RepL.replicate z1 len) (fun u hu=>by rw[List.eq_of_mem_replicate hu];exact⟨i6,z2⟩) (by rw[← hzl,i6])
   refine⟨cells,us,?_,k2,k3,k4⟩
   have:=run_buildSlice (P:=P) c.w t e.1 len (parts.map fun p=>(p.1,a.eval p.2)) cells info z ht i1 i4 (by rw[i2];omega) (by rw[i2];exact h0) (by rw[i2,hpar];exact k1)
   simp[execOp,ho,this]
 obtain⟨cells,us,r1,r2,r3,r4⟩:=hrun
 have hnew:(c.w.alloc (.cells cells e.1)).heap[c.w.heap.size]? =some (.cells cells e.1 (0,0)):=heap_alloc_new c.w _
 have hcs:len*e.2.size=cells.size:=by
  have:cells.toList.length=us.length*e.2.size:=by rw[r4,cellsOf_length (fun u h=>(r3 u h).1)]
  rw[r2.length,hl] at this
  simpa using this.symm
 have hlm:len≤maxLen:=by
  have:len*1≤len*e.2.size:=Nat.mul_le_mul_left _ hs0
  unfold maxLen;omega
 cases hin:(len==0||isIn o.dst own) with
 |true=>
  replace h3:=h3.1 hin
  obtain⟨g1,g2⟩:=new_cells hi.heap r2 r3 cells [] (by simpa using r4) e.1 (0,0) (.inl rfl) (w0:=c.w) rfl rfl rfl rfl
  refine wp_val hd r1 (hk _ _ _ h3 g2 ?_ g1)
  have:=rep_sl_add c e.2.size xs (some (c.w.heap.size,0)) (c.w.alloc (.cells cells e.1)) (a:=some ⟨c.w.heap.size,0,none⟩) (cap:=len) (by omega) hlm (.inr ⟨c.w.heap.size,cells,e.1,(0,0),rfl,rfl,hnew,hcs⟩)
  rwa[hl] at this
 |false=>
  replace h3:=h3.2 hin
  obtain⟨g1,g2⟩:=Cx.world hi.heap (w':=c.w.alloc (.cells cells e.1)) (fun b hb=>heap_alloc_old c.w _ b hb) (by simp) rfl rfl rfl
  refine wp_val hd r1 (hk _ { c with w:=c.w.alloc (.cells cells e.1)} _ h3 g2 ?_ g1)
  simp only[Rep]
  refine⟨some ⟨c.w.heap.size,0,none⟩,len,by rw[hl],by omega,hlm,.inr ⟨c.w.heap.size,0,us,rfl,r2.grow g1,r3,fun j v hv=>?_,by simp,?_⟩⟩
  ·rw[cell_at hnew,Nat.zero_add,← Array.getElem?_toList,r4];exact hv
  ·rintro⟨id,o',⟨B,hB,hBl⟩,hθ⟩
   have:=BlkRep.lt (hi.heap.blk id B hB) hBl hθ
   omega
theorem wp_makeSlice {t:Nat} {x y:Operand} (hT:TabOK P T) (hi:Inv G nt B c env a) (ho:o.op= .makeSlice t x y) (h:exOp P G T own env c.H o.dst o.type (.makeSlice t x y) k)
 (hk:∀ x c' u,k x c'.H→HeapOK c'→Rep c' x u→Grow c c'→next (a.put o.dst u) c'.w):o.wpIn (FR ρ) 0 P a c.w next Q:=by
 obtain⟨e,h1,xv,h2,n,h3,yv,h4,m,h5,⟨rfl,hn,hb0,hs0,hb⟩,hzf,hkk⟩:=h
 obtain⟨ht,hei⟩:=elemOf_some hT h1
 obtain⟨_,info,z,i1,i2,i3,i4,i5,i6⟩:=hei
 obtain⟨z1,z2⟩:=i5 c
 have hd:∀ c,o.op≠ .defer c:=by rw[ho];intro _ e;cases e
 obtain⟨ki,rfl⟩:=asI_some h3
 obtain⟨kj,rfl⟩:=asI_some h5
 have hx:=ev_ok hi h2
 have hy:=ev_ok hi h4
 simp only[Rep] at hx hy
 have hbig:m.toNat≤70368744177664:=Nat.le_trans (Nat.le_mul_of_pos_right _ hb0) hb
 have hby:(info.bytes:Int)*m≤281474976710656:=by
  rw[i3,show m=(m.toNat:Int) by omega,← Int.natCast_mul,Nat.mul_comm]
  omega
 have hrun:=run_make (P:=P) c.w t e.1 info z ht i1 i4 ki kj m m hn (Int.le_refl _) hby (by omega)
 have hpos:0<z.cells.size:=by rw[i6];exact hs0
 have hzl:=zeroCells_list z hpos m.toNat
 have hlen:(List.replicate m.toNat e.2.zero).length=m.toNat:=List.length_replicate
 obtain⟨g1,g2⟩:=new_cells hi.heap (RepL.replicate z1 m.toNat) (fun u hu=>by rw[List.eq_of_mem_replicate hu];exact⟨i6,z2⟩) (madeCells z.cells (m.toNat*info.size)) [] (by
  rw[i2,← i6,List.append_nil,← hzl];rfl) e.1 (0,0) (.inl rfl) (w0:=c.w) rfl rfl rfl rfl
 refine wp_val (u:= .slice (some ⟨c.w.heap.size,0,none⟩) m.toNat m.toNat) hd (by simp[execOp,ho,hx.1,hy.1,hrun]) (hk _ _ _ hkk g2 ?_ g1)
 have:=rep_sl_add c e.2.size (List.replicate m.toNat e.2.zero) (some (c.w.heap.size,0)) (c.w.alloc (.cells (madeCells z.cells (m.toNat*info.size)) e.1)) (a:=some ⟨c.w.heap.size,0,none⟩) (cap:=m.toNat) (by omega) (by unfold maxLen;omega) (.inr ⟨c.w.heap.size,_,e.1,(0,0),rfl,rfl,heap_alloc_new c.w _,by rw[size_madeCells,i2]⟩)
 rwa[hlen] at this
theorem wp_slice3 {t:Nat} {x:Operand} {lo:Option Operand} {hi' mx:Operand} (hT:TabOK P T) (hi:Inv G nt B c env a) (ho:o.op= .slice t x lo (some hi') (some mx)) (h:exOp P G T own env c.H o.dst o.type (.slice t x lo (some hi') (some mx)) k)
 (hk:∀ x c' u,k x c'.H→HeapOK c'→Rep c' x u→Grow c c'→next (a.put o.dst u) c'.w):o.wpIn (FR ρ) 0 P a c.w next Q:=by
 obtain⟨e,h1,v,h2,n,h3,l,h4,hh,h5,m,h6,⟨e1,e2,e3,e4⟩,hs,hkk⟩:=h
 obtain⟨hu,hei⟩:=elemOf_some hT h1
 obtain⟨info,i1,i2,_⟩:=tiOK_info hei
 have hv:=ev_ok hi h2
 have hd:∀ c,o.op≠ .defer c:=by rw[ho];intro _ e;cases e
 have hlo:(lo.map a.eval=none∧l=0)∨∃ i,lo.map a.eval=some (.int i l):=by
  rcases boundOf_ok hi h4 with⟨rfl,rfl⟩|⟨z,i,rfl,hz⟩
  ·exact .inl ⟨rfl,rfl⟩
  ·exact .inr ⟨i,by simp[hz]⟩
 obtain⟨jh,hhi⟩:∃ i,a.eval hi'= .int i hh:=by
  rcases boundOf_ok hi h5 with⟨hq,_⟩|⟨z,i,hq,hz⟩
  ·cases hq
  ·cases hq;exact⟨i,hz⟩
 obtain⟨jm,hmx⟩:∃ i,a.eval mx= .int i m:=by
  rcases boundOf_ok hi h6 with⟨hq,_⟩|⟨z,i,hq,hz⟩
  ·cases hq
  ·cases hq;exact⟨i,hz⟩
 have hsl:∃ aa cap,a.eval x= .slice aa n cap∧n≤cap:=by
  cases v with
  |nil=>simp only[lenSV,Option.some.injEq] at h3;subst h3;simp only[Rep] at hv;exact⟨none,0,hv,Nat.le_refl _⟩
  |list sz xs=>simp only[lenSV,Option.some.injEq] at h3;subst h3;simp only[Rep] at hv;obtain⟨aa,cap,g1,g2,_⟩:=hv;exact⟨aa,cap,g1,g2⟩
  |sl id g off len=>
   simp only[lenSV,Option.some.injEq] at h3;subst h3
   simp only[seqOf] at hs
   cases hb:blkOf c.H id g with
   |none=>rw[hb] at hs;cases hs
   |some p=>
    obtain⟨sz,vals⟩:=p
    simp only[Rep,blkOf_some hb] at hv
    rcases hv.2 with hv|⟨_,_,aa,cap,g1,g2,_⟩
    ·omega
    ·exact⟨aa,cap,g1,g2⟩
  |_=>simp[seqOf] at hs
 obtain⟨aa,cap,hx,hcap⟩:=hsl
 have hb:(Instr.sliceBounds true n cap (lo.map a.eval) (some (.int jh hh)) (some (.int jm m))).run P c.w= .ok (l.toNat,hh.toNat,m.toNat) c.w:=by
  have q1:0≤m∧m≤(cap:Int):=⟨by omega,by omega⟩
  have q2:0≤hh∧hh≤((m.toNat:Nat):Int):=⟨by omega,by omega⟩
  have q3:0≤l∧l≤((hh.toNat:Nat):Int):=⟨by omega,by omega⟩
  rcases hlo with⟨hl,rfl⟩|⟨i,hl⟩<;>rw[hl]<;>simp only[Instr.sliceBounds,Instr.sliceBound,asIntOf,Sem.run_bind,Sem.run_pure,Result.andThen_ok,q1,q2,q3,and_self,if_true]<;>rfl
 obtain⟨g1,g2⟩:=Cx.fresh hi.heap c.w.heap.size (Nat.le_refl _) 0 none (.inl rfl) .dead (w':=c.w) (fun _ _=>rfl) (Nat.le_refl _) rfl rfl rfl (fun hg=>trivial)
 refine wp_val hd (u:= .slice (if m.toNat=l.toNat then aa else aa.map (·.add (l.toNat*e.2.size))) (hh.toNat - l.toNat) (m.toNat - l.toNat)) (w':=c.w) ?_ (hk (.sl c.H.length 0 0 0) (c.add .dead none c.w) _ hkk g2 ?_ g1)
 ·simp[execOp,ho,Instr.sliceAt,run_underlying hu,Instr.slice,hx,hhi,hmx,hb,sizeOf,typeInfo,i1,i2]
 ·simp only[Rep,List.getElem?_concat_length]
  exact⟨rfl,trivial⟩
theorem len_ok (hi:Inv G nt B c env a) {t:Nat} {i:TI} (ht:tiOK P t i) {v:SV} {u:Value} (hv:Rep c v u) (hf:lenFits c.H i.d v=true) {n:Nat} (hn:lenSV c.H v=some n) (hm:∀ k e,i.d= .map k e→n≤9223372036854775807) (ty:Nat):
 (Builtin.len_ #[t] ty #[u]).run P c.w= .ok (.int .i64 n) c.w∧Rep c (.int .i64 n) (.int .i64 n):=by
 have hd:=ht.1
 have fin:∀ n:Nat,n≤9223372036854775807→Rep c (.int .i64 n) (.int .i64 n):=fun n h=>by
  simp only[Rep,IntKind.min,IntKind.max,IntKind.signed,IntKind.bits]
  refine⟨trivial,?_,?_⟩<;>simp<;>omega
 cases hdd:i.d with
 |str=>
  rw[hdd] at hf hd
  cases v with
  |str s=>
   simp only[lenSV,Option.some.injEq] at hn;subst hn
   simp only[Rep] at hv
   have hu:P.underlying t=some .string:=hd
   have hsz:(ByteArray.mk ⟨s⟩).size=s.length:=rfl
   exact⟨by simp[Builtin.len_,run_underlying hu,hv.1,goInt,hsz],fin _ (by have:=hv.2;unfold maxLen at this;omega)⟩
  |_=>cases hf
 |slice e=>
  rw[hdd] at hf hd
  have hu:P.underlying t=some (.slice e):=hd
  cases v with
  |nil=>simp only[lenSV,Option.some.injEq] at hn;subst hn;simp only[Rep] at hv;exact⟨by simp[Builtin.len_,run_underlying hu,hv,goInt],fin _ (by omega)⟩
  |list sz xs=>
   simp only[lenSV,Option.some.injEq] at hn;subst hn
   simp only[Rep] at hv
   obtain⟨aa,cap,h1,h2,h3,_⟩:=hv
   exact⟨by simp[Builtin.len_,run_underlying hu,h1,goInt],fin _ (by unfold maxLen at h3;omega)⟩
  |sl id g off len=>
   simp only[lenSV,Option.some.injEq] at hn;subst hn
   simp only[lenFits,Option.isSome_iff_exists] at hf
   obtain⟨⟨sz,vals⟩,hb⟩:=hf
   simp only[Rep,blkOf_some hb] at hv
   rcases hv.2 with hv|⟨_,_,aa,cap,h1,h2,h3,_⟩
   ·omega
   ·exact⟨by simp[Builtin.len_,run_underlying hu,h1,goInt],fin _ (by unfold maxLen at h3;omega)⟩
  |_=>cases hf
 |map kt e=>
  rw[hdd] at hf hd
  have hu:P.underlying t=some (.map kt e):=hd
  cases v with
  |nilmap=>simp only[lenSV,Option.some.injEq] at hn;subst hn;simp only[Rep] at hv;exact⟨by simp[Builtin.len_,run_underlying hu,hv,goInt],fin _ (by omega)⟩
  |map id=>
   simp only[lenSV] at hn
   split at hn
   ·rename_i kd es hb
    cases hn
    simp only[Rep,hb] at hv
    obtain⟨_,b,h1,h2⟩:=hv
    obtain⟨b',ents,clk,h3,h4,h5,_⟩:=hi.heap.blk id _ hb
    rw[h1] at h3;cases h3
    have hlen:∀ {es:List (SV×SV)} {l:List MapEntry},RepE c es l→l.length=es.length:=by
     intro es
     induction es with
     |nil=>intro l h;simp only[RepE] at h;rw[h];rfl
     |cons p es ih=>intro l h;obtain⟨q,x⟩:=p;simp only[RepE] at h;obtain⟨e',es',_,_,h3,rfl⟩:=h;simp[ih h3]
    have hle:=hlen h5
    rw[Array.length_toList] at hle
    exact⟨by simp[Builtin.len_,run_underlying hu,h2,MapKept.run_getObj_map h4,goInt,hle],fin _ (hm kt e hdd)⟩
   ·cases hn
  |_=>cases hf
 |_=>rw[hdd] at hf;cases v<;>cases hf
theorem there_store {w:World} {b o:Nat} {vs:List Value} (ht:w.there b o vs.length) (h1:∀ v∈vs,v.oneCell'=true):(storeCells ⟨b,o,none⟩ vs).run P w= .ok () (w.setCells b o vs):=by
 have:=run_storeCells_cells (P:=P) b o vs 0 w (fun j hj=>(ht j hj).1) (fun j hj=>(ht j hj).2) h1
 simpa using this
theorem copy_ok {d s:Operand} {t ts:Nat} (hT:TabOK P T) (hi:Inv G nt B c env a) (hk:∀ x c' u,k x c'.H→HeapOK c'→Rep c' x u→Grow c c'→next (a.put o.dst u) c'.w)
 (ho:o.op= .call { callee:= .builtin .copy,args:=⟨[d,s]⟩,argTypes:=⟨[t,ts]⟩}) {e e':Nat×TI} (h1:elemOf T t=some e) (h2:elemOf T ts=some e') {dv sv:SV} (h3:ev G env d=some dv) (h4:ev G env s=some sv) {ys:List SV} (h5:seqOf c.H sv=some ys) (h6:szOK c.H e.2.size sv=true)
 (h7:match (generalizing:=false) dv with
  | .sl id g off len=>bindO (blkOf c.H id g) fun b=>Need (b.1=e.2.size∧0<e.2.size∧off+len≤b.2.length)
   (k (.int .i64 (min ys.length len:Nat)) (c.H.set id (.cells g e.2.size (b.2.take off++ys.take (min ys.length len)++b.2.drop (off+min ys.length len)))))
  |_=>False):o.wpIn (FR ρ) 0 P a c.w next Q:=by
 have hd:∀ c,o.op≠ .defer c:=by rw[ho];intro _ e;cases e
 obtain⟨ht,hei⟩:=elemOf_some hT h1
 obtain⟨hts,_⟩:=elemOf_some hT h2
 obtain⟨info,i1,i2,_⟩:=tiOK_info hei
 cases dv with
 |sl id g off len=>
  obtain⟨⟨bsz,vals⟩,hb1,⟨hsz,hs0,hoff⟩,hkk⟩:=h7
  simp only at hsz hoff hkk
  subst hsz
  have hb':=blkOf_some hb1
  have hdv:=ev_ok hi h3
  have hdv':=hdv
  simp only[Rep,hb'] at hdv
  rcases hdv.2 with hq|⟨_,_,aa,cap,hda,hcap,hcapm,hcapd⟩
  ·omega
  obtain⟨sa,scap,vs,q1,q2,q3,q4,q5,q6⟩:=seq_ok hi.heap (ev_ok hi h4) h5 h6
  have hvl:vs.length=ys.length:=q4.length
  generalize hN:min ys.length len=N at hkk
  have hN1:N≤ys.length:=by omega
  have hN2:N≤len:=by omega
  have hmin:Nat.min ys.length len=N:=hN
  have hrep:Rep c (.int .i64 (N:Int)) (goInt N):=by
   simp only[Rep,goInt,IntKind.min,IntKind.max,IntKind.signed,IntKind.bits]
   refine⟨trivial,?_,?_⟩<;>simp<;>unfold maxLen at hcapm<;>omega
  by_cases h0:N=0
  ·subst h0
   have hset:c.H.set id (.cells g e.2.size (vals.take off++ys.take 0++vals.drop (off+0)))=c.H:=by
    rw[List.take_zero,cut_nothing,set_self hb']
   rw[hset] at hkk
   refine wp_pure (u:=goInt 0) hi hk hd hrep hkk ?_
   have hl:∀ (x:Addr),(loadCells x 0).run P c.w= .ok #[] c.w:=fun x=>by simpa using run_loadCells_list (P:=P) c.w x [] (by simp)
   cases aa<;>cases sa<;>simp[execOp,ho,resolve,invoke,builtin,hda,q1,Builtin.copy_,run_underlying ht,Builtin.lenOf,Builtin.firstCells,sizeOf,typeInfo,i1,hmin,storeCells,hl,goInt]
  ·rcases hcapd with hcapd|⟨b,o1,cs,Ty,fr,e1,e2,e3,e4⟩
   ·omega
   rcases q6 with q6|⟨sb,so,q6,q7⟩
   ·subst q6;simp at hN1;omega
   have hyt:(ys.take N).length=N:=by simp;omega
   have hvt:(vs.take N).length=N:=by simp;omega
   have hcl:(cellsOf (vs.take N)).length=N*e.2.size:=by rw[cellsOf_length (fun u h=>(q5 u (List.mem_of_mem_take h)).1),hvt]
   have hu:∀ u∈vs.take N,u.cells.size=e.2.size∧okCells u:=fun u h=>q5 u (List.mem_of_mem_take h)
   obtain⟨hthere,g1,g2⟩:=write_ok hi.heap hb' e1 off (q4.take N) hu (by rw[hyt];omega)
   rw[hyt] at g1 g2
   have hst:=there_store (P:=P) hthere (cellsOf_ok fun u h=>(hu u h).2)
   have hld:(loadCells ⟨sb,so,none⟩ (N*e.2.size)).run P c.w= .ok (cellsOf (vs.take N)).toArray c.w:=by
    rw[← hcl]
    exact run_loadCells_list (P:=P) c.w _ _ (fun j v hj=>by
     rw[Addr.add_mid]
     have hpre:cellsOf vs=cellsOf (vs.take N)++cellsOf (vs.drop N):=by rw[← cellsOf_append,List.take_append_drop]
     exact q7 j v (by rw[hpre,List.getElem?_append_left (List.getElem?_eq_some_iff.1 hj).1];exact hj))
   subst e2 q6
   have hfin:=hk (.int .i64 (N:Int)) _ (goInt N) hkk g2 (hrep.grow g1) g1
   refine wp_val hd ?_ hfin
   simp[execOp,ho,resolve,invoke,builtin,hda,q1,Builtin.copy_,run_underlying ht,Builtin.lenOf,Builtin.firstCells,sizeOf,typeInfo,i1,i2,hmin,hld,hst,goInt]
 |_=>exact h7.elim
theorem clear_ok {x:Operand} {t:Nat} (hT:TabOK P T) (hi:Inv G nt B c env a) (hk:∀ x c' u,k x c'.H→HeapOK c'→Rep c' x u→Grow c c'→next (a.put o.dst u) c'.w)
 (ho:o.op= .call { callee:= .builtin .clear,args:=⟨[x]⟩,argTypes:=⟨[t]⟩}) {e:Nat×TI} (h1:elemOf T t=some e) {xv:SV} (h2:ev G env x=some xv)
 (h3:match (generalizing:=false) xv with
  | .nil=>k (.tuple []) c.H
  | .sl id g off len=>bindO (blkOf c.H id g) fun b=>Need (b.1=e.2.size∧0<e.2.size∧off+len≤b.2.length)
   (k (.tuple []) (c.H.set id (.cells g e.2.size (b.2.take off++List.replicate len e.2.zero++b.2.drop (off+len)))))
  |_=>False):o.wpIn (FR ρ) 0 P a c.w next Q:=by
 have hd:∀ c,o.op≠ .defer c:=by rw[ho];intro _ e;cases e
 obtain⟨ht,hei⟩:=elemOf_some hT h1
 obtain⟨_,info,z,i1,i2,i3,i4,i5,i6⟩:=hei
 obtain⟨z1,z2⟩:=i5 c
 have hrep:∀ c,Rep c (.tuple []) (.tuple #[]):=fun c=>by simp only[Rep];exact⟨[],RepL.mk_nil,rfl⟩
 have hx:=ev_ok hi h2
 cases xv with
 |nil=>
  simp only[Rep] at hx
  refine wp_pure hi hk hd (hrep c) h3 ?_
  simp[execOp,ho,resolve,invoke,builtin,hx,Builtin.clear_,run_underlying ht]
 |sl id g off len=>
  obtain⟨⟨bsz,vals⟩,hb1,⟨hsz,hs0,hoff⟩,hkk⟩:=h3
  simp only at hsz hoff hkk
  subst hsz
  have hb':=blkOf_some hb1
  simp only[Rep,hb'] at hx
  rcases hx.2 with hq|⟨_,_,aa,cap,hda,hcap,hcapm,hcapd⟩
  ·omega
  by_cases h0:len=0
  ·subst h0
   have hset:c.H.set id (.cells g e.2.size (vals.take off++List.replicate 0 e.2.zero++vals.drop (off+0)))=c.H:=by
    rw[List.replicate_zero,cut_nothing,set_self hb']
   rw[hset] at hkk
   refine wp_pure hi hk hd (hrep c) hkk ?_
   cases aa<;>simp[execOp,ho,resolve,invoke,builtin,hda,Builtin.clear_,run_underlying ht]
  ·rcases hcapd with hcapd|⟨b,o1,cs,Ty,fr,e1,e2,e3,e4⟩
   ·omega
   have hu:∀ u∈List.replicate len z,u.cells.size=e.2.size∧okCells u:=fun u h=>by rw[List.eq_of_mem_replicate h];exact⟨i6,z2⟩
   obtain⟨hthere,g1,g2⟩:=write_ok hi.heap hb' e1 off (RepL.replicate z1 len) hu (by rw[List.length_replicate];exact hoff)
   rw[List.length_replicate] at g1 g2
   have hst:=there_store (P:=P) hthere (cellsOf_ok fun u h=>(hu u h).2)
   have hzl:(Builtin.zeroCells z.cells len).toList=cellsOf (List.replicate len z):=zeroCells_list z (by rw[i6];exact hs0) len
   subst e2
   have hfin:=hk (.tuple []) _ (.tuple #[]) hkk g2 (hrep _) g1
   refine wp_val hd ?_ hfin
   cases len with
   |zero=>exact absurd rfl h0
   |succ len=>simp[execOp,ho,resolve,invoke,builtin,hda,Builtin.clear_,run_underlying ht,zeroValue,typeInfo,i1,i4,hzl,hst]
 |_=>exact h3.elim
theorem wp_builtin {b:Builtin} {args:Array Operand} {tys:Array Nat} (hT:TabOK P T) (hi:Inv G nt B c env a) (ho:o.op= .call { callee:= .builtin b,args,argTypes:=tys}) (h:exBuiltin T G env c.H b args.toList tys.toList k)
 (hk:∀ x c' u,k x c'.H→HeapOK c'→Rep c' x u→Grow c c'→next (a.put o.dst u) c'.w):o.wpIn (FR ρ) 0 P a c.w next Q:=by
 have hd:∀ c,o.op≠ .defer c:=by rw[ho];intro _ e;cases e
 obtain⟨args⟩:=args
 obtain⟨tys⟩:=tys
 simp only at h
 unfold exBuiltin at h
 split at h
 ·rename_i x t
  obtain⟨i,h1,v,h2,h3,n,h4,h5⟩:=h
  have hkn:k (.int .i64 n) c.H∧∀ kk e,i.d= .map kk e→n≤9223372036854775807:=by
   split at h5
   ·rename_i kk e he;exact⟨h5.2,fun _ _ _=>h5.1⟩
   ·rename_i hne;exact⟨h5,fun kk e he=>absurd he (hne kk e)⟩
  obtain⟨r1,r2⟩:=len_ok (P:=P) hi (hT t i h1) (ev_ok hi h2) h3 h4 hkn.2 o.type
  exact wp_pure hi hk hd r2 hkn.1 (by simp[execOp,ho,resolve,invoke,builtin,r1])
 ·rename_i s x t tx
  obtain⟨e,h1,ix,h2,sv,h3,xv,h4,h5⟩:=h
  obtain⟨ht,hei⟩:=elemOf_some hT h1
  have key:∀ {ys:List SV} {vs:List Value},RepL c ys vs→(∀ u∈vs,u.cells.size=e.2.size∧okCells u)→Src P e.2.size tx (a.eval x) ys.length (cellsOf vs) c.w→appendSV c.H e.2 sv ys k→o.wpIn (FR ρ) 0 P a c.w next Q:=fun q1 q2 q3 q4=>by
   obtain⟨z,c',u,k1,k2,k3,k4,k5⟩:=append_ok hi.heap ht hei (ev_ok hi h3) q1 q2 q3 o.type q4
   exact wp_val hd (by simp[execOp,ho,resolve,invoke,builtin,k5]) (hk z c' u k1 k2 k3 k4)
  have hix:=(hT tx ix h2).1
  split at h5
  ·rename_i e' he
   rw[he] at hix
   obtain⟨ys,h6,h7,h8⟩:=h5
   obtain⟨vs,q1,q2,q3⟩:=src_ok (P:=P) hi.heap (ev_ok hi h4) h6 h7 hix
   exact key q1 q2 q3 h8
  ·rename_i he
   rw[he] at hix
   cases xv with
   |str bs=>
    obtain⟨h6,h7⟩:=h5
    obtain⟨vs,q1,q2,q3⟩:=strBytes_src (P:=P) (c:=c) bs hix
    have hxv:=ev_ok hi h4
    simp only[Rep] at hxv
    exact key q1 (by rw[h6];exact q2) (by rw[h6,hxv.1];exact q3) h7
   |_=>exact h5.elim
  ·exact h5.elim
 ·rename_i d s t ts
  obtain⟨e,h1,e',h2,dv,h3,sv,h4,ys,h5,h6,h7⟩:=h
  exact copy_ok hT hi hk ho h1 h2 h3 h4 h5 h6 h7
 ·rename_i x t
  obtain⟨e,h1,xv,h2,h3⟩:=h
  exact clear_ok hT hi hk ho h1 h2 h3
 ·rename_i x y
  obtain⟨p,h1,q,h2,h3⟩:=h
  cases p with
  |int i m=>cases q with
   |int j n=>
    obtain⟨h4,h5⟩:=h3
    have r1:=ev_ok hi h1
    have r2:=ev_ok hi h2
    simp only[Rep] at r1 r2
    refine wp_pure (u:= .int i (if n<m then n else m)) hi hk hd (by simp only[Rep];refine⟨trivial,?_⟩;split<;>first|exact h4|exact r1.2) h5 ?_
    simp[execOp,ho,resolve,invoke,builtin,Builtin.min_,Builtin.min2,r1.1,r2.1]
   |_=>exact h3.elim
  |_=>exact h3.elim
 ·rename_i x y
  obtain⟨p,h1,q,h2,h3⟩:=h
  cases p with
  |int i m=>cases q with
   |int j n=>
    obtain⟨h4,h5⟩:=h3
    have r1:=ev_ok hi h1
    have r2:=ev_ok hi h2
    simp only[Rep] at r1 r2
    refine wp_pure (u:= .int i (if m<n then n else m)) hi hk hd (by simp only[Rep];refine⟨trivial,?_⟩;split<;>first|exact h4|exact r1.2) h5 ?_
    simp[execOp,ho,resolve,invoke,builtin,Builtin.max_,Builtin.max2,r1.1,r2.1]
   |_=>exact h3.elim
  |_=>exact h3.elim
 ·exact h.elim
theorem wp_call {f:Operand} {args:Array Operand} {tys:Array Nat} (hi:Inv G nt B c env a) (ho:o.op= .call { callee:= .value f,args,argTypes:=tys}) {fv:SV} {xs:List SV} (hf:ev G env f=some fv) (hx:evs G env args.toList=some xs)
 (h:ACallV P G fv xs c.H fun r H'=>Then (k r H'))
 (hk:∀ x c' u,k x c'.H→HeapOK c'→Rep c' x u→Grow c c'→next (a.put o.dst u) c'.w):o.wpIn (FR ρ) 0 P a c.w next Q:=by
 have hd:∀ c,o.op≠ .defer c:=by rw[ho];intro _ e;cases e
 obtain⟨d,w1,h1,h2⟩:=h c (a.eval f) (args.toList.map a.eval) rfl hi.heap hi.glob (ev_ok hi hf) (evs_ok hi hx)
 refine⟨fun _ _=>trivial,?_⟩
 rw[Oper.semAt_eq _ _ _ hd]
 have harr:args.map a.eval=(args.toList.map a.eval).toArray:=by rw[← Array.toList_inj];simp
 have hres:(resolve a.eval { callee:= .value f,args,argTypes:=tys} o.type).run P c.w= .ok d w1:=by
  simp only[resolve];rw[harr];exact h1
 have hm:∀ {R:Ending→World→Prop},(∀ v w',(∃ x c',c'.w=w'∧k x c'.H∧HeapOK c'∧Rep c' x v∧Grow c c')→R (.returned v) w')→∀ e w',RetOK c (fun r H'=>Then (k r H')) e w'→R e w':=fun hR e w' ⟨v,x,c',e1,e2,e3,e4,e5,e6⟩=>by
  subst e1;exact hR v w' ⟨x,c',e2,e3,e4,e5,e6⟩
 rcases h2 with⟨g,asv,w2,b1,b2⟩|⟨l,g,tmps,asn,bd,w2,b1,b2⟩
 ·have hrun:(execOp a.eval o).run P c.w= .ok (.enter g asv) w2:=by
   simp only[execOp,ho,Sem.run_bind,hres,Result.andThen_ok,b1]
  rw[hrun]
  refine⟨fun hh=>(by cases hh),CallsIn.mono (F:=FR ρ) b2 fun e w' he=>?_⟩
  obtain⟨v,x,c',rfl,rfl,e3,e4,e5,e6⟩:=he
  exact hk x c' v e3 e4 e5 e6
 ·have hrun:(execOp a.eval o).run P c.w= .ok (.round l g tmps asn bd) w2:=by
   simp only[execOp,ho,Sem.run_bind,hres,Result.andThen_ok,b1]
  rw[hrun]
  refine⟨fun hh=>(by cases hh),RoundIn.mono (F:=FR ρ) b2 fun e w' he=>?_⟩
  obtain⟨v,x,c',rfl,rfl,e3,e4,e5,e6⟩:=he
  exact hk x c' v e3 e4 e5 e6
theorem exOp_wp (hT:TabOK P T) (hi:Inv G nt B c env a) (h:exOp P G T own env c.H o.dst o.type o.op k)
 (hk:∀ x c' u,k x c'.H→HeapOK c'→Rep c' x u→Grow c c'→next (a.put o.dst u) c'.w):o.wpIn (FR ρ) 0 P a c.w next Q:=by
 cases ho:o.op with
 |move x=>rw[ho] at h;exact wp_move hi ho h hk
 |assign x=>rw[ho] at h;exact wp_assign hi ho h hk
 |pick x y z=>rw[ho] at h;exact wp_pick hi ho h hk
 |alloc t=>rw[ho] at h;exact wp_alloc hT hi ho h hk
 |box t x=>rw[ho] at h;exact wp_box hT hi ho h hk
 |build t x=>rw[ho] at h;exact wp_build hT hi ho h hk
 |buildSlice t n x=>rw[ho] at h;exact wp_buildSlice hT hi ho h hk
 |load t x=>rw[ho] at h;exact wp_load hT hi ho h hk
 |store t x y=>rw[ho] at h;exact wp_store hT hi ho h hk
 |nilCheck x=>rw[ho] at h;exact wp_nilCheck hi ho h hk
 |binOp op t x y yt=>rw[ho] at h;exact wp_binOp hT hi ho h hk
 |unOp op t x=>rw[ho] at h;exact wp_unOp hi ho h hk
 |convert s t x=>rw[ho] at h;exact wp_convert hT hi ho h hk
 |makeFunc f x y=>rw[ho] at h;exact wp_makeFunc hi ho h hk
 |makeMap t r=>rw[ho] at h;cases r with
  |none=>exact wp_makeMap hi ho h hk
  |some r=>exact h.elim
 |slice t x lo hi' mx=>rw[ho] at h;cases mx with
  |none=>exact wp_slice hT hi ho h hk
  |some r=>cases hi' with
   |none=>exact h.elim
   |some q=>exact wp_slice3 hT hi ho h hk
 |makeSlice t x y=>rw[ho] at h;exact wp_makeSlice hT hi ho h hk
 |fieldAddr t x f=>rw[ho] at h;exact wp_fieldAddr hT hi ho h hk
 |field t x f=>rw[ho] at h;exact wp_field hT hi ho h hk
 |indexAddr t x i=>rw[ho] at h;exact wp_indexAddr hT hi ho h hk
 |index t x i=>rw[ho] at h;exact wp_index hT hi ho h hk
 |lookup t x i ok=>rw[ho] at h;exact wp_lookup hT hi ho h hk
 |mapUpdate t m x y=>rw[ho] at h;exact wp_mapUpdate hT hi (.inl ho) h hk
 |insert t m x y=>rw[ho] at h;exact wp_mapUpdate (own:=own) hT hi (.inr ho) h hk
 |extract x i=>rw[ho] at h;exact wp_extract hi ho h hk
 |call cl=>
  rw[ho] at h
  obtain⟨cal,args,tys⟩:=cl
  cases cal with
  |builtin b=>exact wp_builtin hT hi ho h hk
  |value f=>obtain⟨fv,h1,xs,h2,h3⟩:=h;exact wp_call hi ho h1 h2 h3 hk
  |invoke r m=>exact h.elim
 |_=>rw[ho] at h;exact h.elim
end
end
section
abbrev Env:=List (Nat×SV)
def putK (nt:Nat) (d:Option Nat) (x:SV) (env:Env) (k:Env→Prop):Prop:=
 match d with
 |some d=>Need (d<nt) (k ((d,x)::env))
 |none=>k env
def asG:SV→Option (Option Bool)
 | .bool b=>some (some b)
 | .undef=>some none
 |_=>none
def exOps (P:Program) (G:Gl) (T:Tab) (own:List Nat) (nt:Nat) (all:List Oper):List Oper→Env→List Blk→(Env→List Blk→Prop)→Prop
 |[],env,H,k=>k env H
 |o::r,env,H,k=>
  match o.guard with
  |none=>exOp P G T own env H o.dst o.type o.op fun x H'=>putK nt o.dst x env fun env'=>exOps P G T own nt all r env' H' k
  |some (j,want)=>bindO ((all[j]?).bind (·.dst)) fun d=>bindO (look env d) fun v=>bindO (asG v) fun g=>
   Br (g==some want) (exOp P G T own env H o.dst o.type o.op fun x H'=>putK nt o.dst x env fun env'=>exOps P G T own nt all r env' H' k)
    (putK nt o.dst .undef env fun env'=>exOps P G T own nt all r env' H k)
@[congr] theorem putK_congr {nt:Nat} {d:Option Nat} {x x':SV} {env env':Env} {k:Env→Prop} (h1:x=x') (h2:env=env'):putK nt d x env k=putK nt d x' env' k:=by rw[h1,h2]
@[congr] theorem exOps_congr {P:Program} {G:Gl} {T:Tab} {own:List Nat} {nt:Nat} {all l:List Oper} {env env':Env} {H H':List Blk} {k:Env→List Blk→Prop} (h1:env=env') (h2:H=H'):
 exOps P G T own nt all l env H k=exOps P G T own nt all l env' H' k:=by rw[h1,h2]
structure St where
 env:Env
 H:List Blk
def AWP (P:Program) (G:Gl) (nt:Nat) (ρ:Option Nat) (C:Cx) (cd:Code) (Q:Exit→St→Prop) (s:St):Prop:=
 ∀ c a,c.H=s.H→Inv G nt C.w.heap.size c s.env a→Grow C c→cd.wpIn (FR ρ) 0 P (fun e a' w'=>∃ s' c',Q e s'∧c'.H=s'.H∧c'.w=w'∧Inv G nt C.w.heap.size c' s'.env a'∧Grow C c') a c.w
@[congr] theorem AWP_congr {P:Program} {G:Gl} {nt:Nat} {ρ:Option Nat} {C:Cx} {cd:Code} {Q:Exit→St→Prop} {s s':St} (h:s=s'):AWP P G nt ρ C cd Q s=AWP P G nt ρ C cd Q s':=by rw[h]
section
variable {P:Program} {G:Gl} {T:Tab} {own:List Nat} {nt B:Nat} {ρ:Option Nat} {C:Cx}
theorem yielded_ok {c:Cx} {env:Env} {a:Act} (hi:Inv G nt B c env a) {ops:Array Oper} {j d:Nat} {v:SV} {g:Option Bool} (h1:(ops.toList[j]?).bind (·.dst)=some d) (h2:look env d=some v) (h3:asG v=some g):yielded ops a.tmps j=g:=by
 have hr:=hi.env d v h2
 unfold yielded
 rw[Array.getElem?_toList] at h1
 rw[h1,Option.bind_some]
 rw[Array.getD_eq_getD_getElem?] at hr
 cases v<;>simp only[asG,Option.some.injEq] at h3<;>try (cases h3;done)
 ·subst h3
  simp only[Rep] at hr
  cases ht:a.tmps[d]? with
  |none=>rfl
  |some u=>rw[ht] at hr;simp only[Option.getD_some] at hr;rw[hr];rfl
 ·subst h3
  simp only[Rep] at hr
  cases ht:a.tmps[d]? with
  |none=>rw[ht] at hr;simp[undef] at hr
  |some u=>rw[ht] at hr;simp only[Option.getD_some] at hr;rw[hr]
theorem exOps_wp (hT:TabOK P T) {ops:Array Oper} {Q:Exit→Act→World→Prop} {k:Env→List Blk→Prop}:∀ (m i:Nat),i+m=ops.size→∀ {c:Cx} {env:Env} {a:Act},Inv G nt B c env a→exOps P G T own nt ops.toList (ops.toList.drop i) env c.H k→
 (∀ env' c' a',k env' c'.H→Inv G nt B c' env' a'→Grow c c'→Q .normal a' c'.w)→wpOpsIn (FR ρ) 0 P ops Q (List.range' i m) a c.w
 |0,i,hm,c,env,a,hi,h,hk=>by
  have:ops.toList.drop i=[]:=List.drop_eq_nil_of_le (by simp;omega)
  rw[this] at h
  exact hk env c a h hi (Grow.refl c)
 |m+1,i,hm,c,env,a,hi,h,hk=>by
  have hlt:i<ops.size:=by omega
  have hget:ops[i]? =some ops[i]:=Array.getElem?_eq_getElem hlt
  have hdrop:ops.toList.drop i=ops[i]::ops.toList.drop (i+1):=by
   rw[List.drop_eq_getElem_cons (by simpa using hlt)];simp
  rw[hdrop] at h
  simp only[List.range'_succ,wpOpsIn,hget]
  generalize ops[i]=o at h hget ⊢
  have run:exOp P G T own env c.H o.dst o.type o.op (fun x H'=>putK nt o.dst x env fun env'=>exOps P G T own nt ops.toList (ops.toList.drop (i+1)) env' H' k)→o.wpIn (FR ρ) 0 P a c.w (wpOpsIn (FR ρ) 0 P ops Q (List.range' (i+1) m)) Q:=fun hx=>by
   refine exOp_wp hT hi hx fun x c' u e1 e2 e3 e4=>?_
   cases hd:o.dst with
   |none=>
    rw[hd] at e1
    exact exOps_wp hT m (i+1) (by omega) (hi.put_none e4 e2) e1 fun env' c2 a' f1 f2 f3=>hk env' c2 a' f1 f2 (e4.trans f3)
   |some d=>
    rw[hd] at e1
    exact exOps_wp hT m (i+1) (by omega) (hi.put e4 e2 e3 e1.1) e1.2 fun env' c2 a' f1 f2 f3=>hk env' c2 a' f1 f2 (e4.trans f3)
  simp only[exOps] at h
  split at h
  ·rename_i hg
   simp only[Region.wanted,hg,if_true]
   exact run h
  ·rename_i j want hg
   obtain⟨d,h1,v,h2,g,h3,h4⟩:=h
   have hy:=yielded_ok hi h1 h2 h3
   simp only[Region.wanted,hg,hy]
   cases hgw:(g==some want) with
   |true=>
    rw[if_pos rfl]
    exact run (h4.1 hgw)
   |false=>
    rw[if_neg (by simp)]
    refine⟨fun _ _=>trivial,?_⟩
    have e1:=h4.2 hgw
    cases hd:o.dst with
    |none=>
     rw[hd] at e1
     exact exOps_wp hT m (i+1) (by omega) (hi.put_none (Grow.refl c) hi.heap) e1 hk
    |some d=>
     rw[hd] at e1
     exact exOps_wp hT m (i+1) (by omega) (hi.put (Grow.refl c) hi.heap Rep.undef e1.1) e1.2 hk
theorem AWP.region (hT:TabOK P T) {id:Nat} {ops:Array Oper} {Q:Exit→St→Prop} {s:St} (h:exOps P G T own nt ops.toList ops.toList s.env s.H fun env H=>Q .normal ⟨env,H⟩):AWP P G nt ρ C (.region id ops false) Q s:=by
 intro c a hc hi hg
 refine wpIn_region ?_
 rw[List.range_eq_range']
 refine exOps_wp hT (own:=own) (k:=fun env H=>Q .normal ⟨env,H⟩) ops.size 0 (by omega) hi (by rw[hc];simpa using h) fun env' c' a' e1 e2 e3=>?_
 exact⟨⟨env',c'.H⟩,c',e1,rfl,rfl,e2,hg.trans e3⟩
theorem AWP.seq {x y:Code} {Q:Exit→St→Prop} {s:St} (h:AWP P G nt ρ C x (fun e s'=>match e with
 | .normal=>AWP P G nt ρ C y Q s'
 |e=>Q e s') s):AWP P G nt ρ C (.seq x y) Q s:=by
 intro c a hc hi hg
 refine wpIn_seq (wpIn_mono (h c a hc hi hg) ?_)
 rintro e a' w' ⟨s',c',h1,h2,h3,h4,h5⟩
 cases e with
 |normal=>subst h3;exact h1 c' a' h2 h4 h5
 |_=>exact⟨s',c',h1,h2,h3,h4,h5⟩
theorem AWP.skip {Q:Exit→St→Prop} {s:St} (h:Q .normal s):AWP P G nt ρ C .skip Q s:=fun c a hc hi hg=>wpIn_skip ⟨s,c,h,hc,rfl,hi,hg⟩
theorem AWP.ret {Q:Exit→St→Prop} {s:St} (h:Q .ret s):AWP P G nt ρ C .ret Q s:=fun c a hc hi hg=>wpIn_ret ⟨s,c,h,hc,rfl,hi,hg⟩
theorem AWP.exit {id:Nat} {Q:Exit→St→Prop} {s:St} (h:Q (.exit id) s):AWP P G nt ρ C (.exit id) Q s:=fun c a hc hi hg=>wpIn_exit ⟨s,c,h,hc,rfl,hi,hg⟩
theorem AWP.block {id:Nat} {x:Code} {Q:Exit→St→Prop} {s:St} (h:AWP P G nt ρ C x (fun e s'=>match e with
 | .exit id'=>if id'=id then Q .normal s' else Q (.exit id') s'
 |e=>Q e s') s):AWP P G nt ρ C (.block id x) Q s:=by
 intro c a hc hi hg
 refine wpIn_block (wpIn_mono (h c a hc hi hg) ?_)
 rintro e a' w' ⟨s',c',h1,h2,h3,h4,h5⟩
 cases e with
 |exit id'=>
  simp only[Exit.inBlock] at h1 ⊢
  split
  ·rename_i e;rw[if_pos e] at h1;exact⟨s',c',h1,h2,h3,h4,h5⟩
  ·rename_i e;rw[if_neg e] at h1;exact⟨s',c',h1,h2,h3,h4,h5⟩
 |_=>exact⟨s',c',h1,h2,h3,h4,h5⟩
theorem AWP.cond {x:Operand} {p q:Code} {Q:Exit→St→Prop} {s:St} (h:bindO (ev G s.env x) fun v=>bindO (asB v) fun g=>Br g (AWP P G nt ρ C p Q s) (AWP P G nt ρ C q Q s)):AWP P G nt ρ C (.cond x p q) Q s:=by
 intro c a hc hi hg
 obtain⟨v,h1,g,h2,h3⟩:=h
 have hr:=ev_ok hi h1
 rw[asB_some h2] at hr
 simp only[Rep] at hr
 refine wpIn_cond hr ?_
 cases g with
 |true=>exact h3.1 rfl c a hc hi hg
 |false=>exact h3.2 rfl c a hc hi hg
theorem wpIn_loopN {F:Fence} {n:Nat} {c:Code} {Q:Exit→Act→World→Prop} {a:Act} {w:World} (I:Nat→Act→World→Prop) (N:Nat) (h₀:I N a w)
 (round:∀ j a w,I j a w→c.wpIn F n P (Exit.then (fun a' w'=>∃ i,i<j∧I i a' w') Q) a w):(Code.loop c).wpIn F n P Q a w:=by
 intro b k cs hro hb hr
 have key:∀ j a w,I j a w→
  ∃ e a' w',Q e a' w'∧ArrivesIn (Machine.fenced P F) P (lone (b.atR a (.code c:: .inLoop c::k)) cs w) b k cs e a' w':=by
  intro j
  induction j using Nat.strongRecOn with
  |_ j ih=>
   intro a w hI
   obtain⟨e,a₁,w₁,hq,harr⟩:=round j a w hI b (.inLoop c::k) cs hro hb hr
   cases e with
   |normal=>
    obtain⟨i,hlt,hI₁⟩:=hq
    obtain⟨e₂,a₂,w₂,hq₂,harr₂⟩:=ih i hlt a₁ w₁ hI₁
    exact⟨e₂,a₂,w₂,hq₂,.of_steps (StepsIn.trans harr (.one (fenced_calm hb hr rfl) stepR_inLoop)) harr₂⟩
   |exit id=>exact⟨_,a₁,w₁,hq,.pass (x:= .inLoop c) rfl (fun _ _=> .inl (by simp)) harr⟩
   |goto l=>exact⟨_,a₁,w₁,hq,.pass (x:= .inLoop c) rfl (fun _ _=> .inl (by simp)) harr⟩
   |ret=>exact⟨_,a₁,w₁,hq,.pass (x:= .inLoop c) rfl (fun _ _=> .inl (by simp)) harr⟩
   |panic ch=>exact⟨_,a₁,w₁,hq,.pass (x:= .inLoop c) rfl (fun _ _=> .inl (by simp)) harr⟩
   |outgrown=>exact⟨_,a₁,w₁,hq,.pass (x:= .inLoop c) rfl (fun _ _=> .inl (by simp)) harr⟩
 obtain⟨e,a',w',hq,harr⟩:=key N a w h₀
 exact⟨e,a',w',hq,.of_steps (.one (fenced_calm hb hr rfl) stepR_loop) harr⟩
theorem AWP.loop {x:Code} {Q:Exit→St→Prop} {s:St} (I:Nat→St→Prop) (n:Nat) (h0:I n s)
 (round:∀ n s,I n s→AWP P G nt ρ C x (fun e s'=>match e with
  | .normal=>∃ m,m<n∧I m s'
  |e=>Q e s') s):AWP P G nt ρ C (.loop x) Q s:=by
 intro c a hc hi hg
 refine wpIn_loopN (fun m a' w'=>∃ s' c',I m s'∧c'.H=s'.H∧c'.w=w'∧Inv G nt C.w.heap.size c' s'.env a'∧Grow C c') n ⟨s,c,h0,hc,rfl,hi,hg⟩ ?_
 rintro j a w ⟨s',c',h1,h2,rfl,h3,h4⟩
 refine wpIn_mono (round j s' h1 c' a h2 h3 h4) ?_
 rintro e a' w' ⟨s2,c2,g1,g2,g3,g4,g5⟩
 cases e with
 |normal=>obtain⟨m,hm,g1⟩:=g1;exact⟨m,hm,s2,c2,g1,g2,g3,g4,g5⟩
 |_=>exact⟨s2,c2,g1,g2,g3,g4,g5⟩
theorem AWP.mono {cd:Code} {Q Q':Exit→St→Prop} {s:St} (h:AWP P G nt ρ C cd Q s) (hq:∀ e s',Q e s'→Q' e s'):AWP P G nt ρ C cd Q' s:=by
 intro c a hc hi hg
 refine wpIn_mono (h c a hc hi hg) ?_
 rintro e a' w' ⟨s',c',h1,h2⟩
 exact⟨s',c',hq e s' h1,h2⟩
def exC (P:Program) (G:Gl) (T:Tab) (own:List Nat) (nt:Nat) (ρ:Option Nat) (C:Cx):Code→Env→List Blk→(Exit→Env→List Blk→Prop)→Prop
 | .skip,env,H,k=>k .normal env H
 | .label _,env,H,k=>k .normal env H
 | .ret,env,H,k=>k .ret env H
 | .exit id,env,H,k=>k (.exit id) env H
 | .cond x p q,env,H,k=>bindO (ev G env x) fun v=>bindO (asB v) fun g=>Br g (exC P G T own nt ρ C p env H k) (exC P G T own nt ρ C q env H k)
 | .block id x,env,H,k=>exC P G T own nt ρ C x env H fun e env' H'=>match e with
  | .exit id'=>if id'=id then k .normal env' H' else k (.exit id') env' H'
  |e=>k e env' H'
 | .region _ ops false,env,H,k=>exOps P G T own nt ops.toList ops.toList env H fun env' H'=>k .normal env' H'
 |cd,env,H,k=>AWP P G nt ρ C cd (fun e s=>k e s.env s.H) ⟨env,H⟩
omit T in
@[congr] theorem exC_congr {T:Tab} {cd:Code} {env env':Env} {H H':List Blk} {k:Exit→Env→List Blk→Prop} (h1:env=env') (h2:H=H'):exC P G T own nt ρ C cd env H k=exC P G T own nt ρ C cd env' H' k:=by rw[h1,h2]
end
end
section
mutual
def SV.under (n:Nat):SV→Bool
 | .ptr id _ _ _=>decide (id<n)
 | .sl id _ _ _=>decide (id<n)
 | .map id=>decide (id<n)
 | .it id=>decide (id<n)
 | .agg fs=>SV.underL n fs
 | .list _ xs=>SV.underL n xs
 | .pto x=>SV.under n x
 | .fn _ xs ys=>SV.underL n xs&&SV.underL n ys
 | .tuple xs=>SV.underL n xs
 | .imap _ _ _ _ ks vs=>SV.underL n ks&&SV.underL n vs
 |_=>true
def SV.underL (n:Nat):List SV→Bool
 |[]=>true
 |x::xs=>SV.under n x&&SV.underL n xs
end
def belowE (n:Nat):List (SV×SV)→Bool
 |[]=>true
 |p::r=>SV.under n p.1&&SV.under n p.2&&belowE n r
def Blk.under (n:Nat):Blk→Bool
 | .cells _ _ vals=>SV.underL n vals
 | .map _ es=>belowE n es
 |_=>true
def closed (H:List Blk):Prop:=∀ B∈H,B.under H.length=true
theorem Rep.below_both (c:Cx):(∀ x v,Rep c x v→x.under c.H.length=true)∧(∀ xs vs,RepL c xs vs→SV.underL c.H.length xs=true):=by
 have ref:∀ id:Nat,(c.H[id]? =none→False)→decide (id<c.H.length)=true:=fun id h=>by
  rw[decide_eq_true_eq]
  by_cases hh:id<c.H.length
  ·exact hh
  ·exact(h (List.getElem?_eq_none (by omega))).elim
 apply SV.both
 ·intro x h1 h2 h3 h4 h5 h6 v h
  cases x with
  |agg fs=>exact absurd rfl (h1 fs)
  |list n xs=>exact absurd rfl (h2 n xs)
  |pto y=>exact absurd rfl (h3 y)
  |fn f a b=>exact absurd rfl (h4 f a b)
  |tuple xs=>exact absurd rfl (h5 xs)
  |imap b clk born kd ks vs=>exact absurd rfl (h6 b clk born kd ks vs)
  |ptr id g i off=>simp only[Rep] at h;exact ref id fun e=>by rw[e] at h;exact h.2
  |sl id g off len=>simp only[Rep] at h;exact ref id fun e=>by rw[e] at h;exact h.2
  |map id=>simp only[Rep] at h;exact ref id fun e=>by rw[e] at h;exact h.2
  |it id=>simp only[Rep] at h;exact ref id fun e=>by rw[e] at h;exact h.2
  |_=>rfl
 ·intro fs ih v h
  simp only[Rep] at h
  obtain⟨vs,h1,_⟩:=h
  exact ih vs h1
 ·intro sz xs ih v h
  simp only[Rep] at h
  obtain⟨a,cap,_,_,_,h3⟩:=h
  rcases h3 with rfl|⟨b,o,vs,_,h4,_⟩
  ·rfl
  ·exact ih vs h4
 ·intro x ih v h
  simp only[Rep] at h
  obtain⟨b,o,u,_,h1,_⟩:=h
  exact ih u h1
 ·intro f xs ys ih1 ih2 v h
  simp only[Rep] at h
  obtain⟨us,vs,h0,h1,_⟩:=h
  simp only[SV.under,ih1 us h0,ih2 vs h1,Bool.and_self]
 ·intro xs ih v h
  simp only[Rep] at h
  obtain⟨vs,h0,_⟩:=h
  exact ih vs h0
 ·intro b clk born kd ks vs ih1 ih2 v h
  simp only[Rep] at h
  obtain⟨_,_,ents,_,_,_,h5,h6,_⟩:=h
  simp only[SV.under,ih1 _ h5,ih2 _ h6,Bool.and_self]
 ·intro vs h;rfl
 ·intro x xs ih1 ih2 vs h
  obtain⟨u,us,h1,h2,_⟩:=RepL.cons_iff.1 h
  simp only[SV.underL,ih1 u h1,ih2 us h2,Bool.and_self]
theorem HeapOK.closed {c:Cx} (h:HeapOK c):closed c.H:=by
 intro B hB
 obtain⟨id,hid,rfl⟩:=List.getElem_of_mem hB
 have hb:=h.blk id _ (List.getElem?_eq_getElem hid)
 cases hBB:c.H[id] with
 |dead=>rfl
 |obj _=>rfl
 |cells g sz vals=>
  rw[hBB] at hb
  rcases hb with⟨_,rfl⟩|⟨_,_,_,_,_,vs,_,_,_,h4,_⟩
  ·rfl
  ·exact(Rep.below_both c).2 _ _ h4
 |map kd es=>
  rw[hBB] at hb
  obtain⟨_,ents,_,_,_,h4,_⟩:=hb
  have:∀ {es:List (SV×SV)} {l:List MapEntry},RepE c es l→belowE c.H.length es=true:=by
   intro es
   induction es with
   |nil=>intro l _;rfl
   |cons p es ih=>
    intro l h
    obtain⟨q,x⟩:=p
    simp only[RepE] at h
    obtain⟨e,es',h1,h2,h3,_⟩:=h
    simp only[belowE,(Rep.below_both c).1 _ _ h1,(Rep.below_both c).1 _ _ h2,ih h3,Bool.and_self]
  exact this h4
theorem Rep.cut_both {θ:Nat→Option (Nat×Nat)} {H X:List Blk} {w:World}:(∀ x v,Rep ⟨θ,H++X,w⟩ x v→x.under H.length=true→Rep ⟨θ,H,w⟩ x v)∧
 (∀ xs vs,RepL ⟨θ,H++X,w⟩ xs vs→SV.underL H.length xs=true→RepL ⟨θ,H,w⟩ xs vs):=by
 have hget:∀ id:Nat,decide (id<H.length)=true→(H++X)[id]? =H[id]? :=fun id h=>List.getElem?_append_left (by simpa using h)
 have himm:∀ b,Cx.imm ⟨θ,H++X,w⟩ b→Cx.imm ⟨θ,H,w⟩ b:=fun b ⟨h1,h2⟩=>⟨h1,fun⟨id,o,⟨B,hB,hl⟩,ht⟩=>h2 ⟨id,o,⟨B,(by
  have hlt:=(List.getElem?_eq_some_iff.1 hB).1
  show(H++X)[id]? =some B
  rw[List.getElem?_append_left hlt];exact hB),hl⟩,ht⟩⟩
 apply SV.both
 ·intro x h1 h2 h3 h4 h5 h6 v h hb
  cases x with
  |agg fs=>exact absurd rfl (h1 fs)
  |list n xs=>exact absurd rfl (h2 n xs)
  |pto y=>exact absurd rfl (h3 y)
  |fn f a b=>exact absurd rfl (h4 f a b)
  |tuple xs=>exact absurd rfl (h5 xs)
  |imap b clk born kd ks vs=>exact absurd rfl (h6 b clk born kd ks vs)
  |ptr id g i off=>simp only[Rep,hget id hb] at h ⊢;exact h
  |sl id g off len=>simp only[Rep,hget id hb] at h ⊢;exact h
  |map id=>simp only[Rep,hget id hb] at h ⊢;exact h
  |it id=>simp only[Rep,hget id hb] at h ⊢;exact h
  |_=>exact h
 ·intro fs ih v h hb
  simp only[Rep] at h ⊢
  obtain⟨vs,h1,h2⟩:=h
  exact⟨vs,ih vs h1 hb,h2⟩
 ·intro sz xs ih v h hb
  simp only[Rep] at h ⊢
  obtain⟨a,cap,h0,h1,h2,h3⟩:=h
  refine⟨a,cap,h0,h1,h2,?_⟩
  rcases h3 with h3|⟨b,o,vs,h3,h4,h5,h6,h7⟩
  ·exact .inl h3
  ·exact .inr ⟨b,o,vs,h3,ih vs h4 hb,h5,h6,himm b h7⟩
 ·intro x ih v h hb
  simp only[Rep] at h ⊢
  obtain⟨b,o,u,h0,h1,h2,h3,h4⟩:=h
  exact⟨b,o,u,h0,ih u h1 hb,h2,h3,himm b h4⟩
 ·intro f xs ys ih1 ih2 v h hb
  simp only[SV.under,Bool.and_eq_true] at hb
  simp only[Rep] at h ⊢
  obtain⟨us,vs,h0,h1,h2⟩:=h
  exact⟨us,vs,ih1 us h0 hb.1,ih2 vs h1 hb.2,h2⟩
 ·intro xs ih v h hb
  simp only[Rep] at h ⊢
  obtain⟨vs,h0,h1⟩:=h
  exact⟨vs,ih vs h0 hb,h1⟩
 ·intro b clk born kd ks vs ih1 ih2 v h hb
  simp only[SV.under,Bool.and_eq_true] at hb
  simp only[Rep] at h ⊢
  obtain⟨h0,h1,ents,h2,h3,h4,h5,h6,h7⟩:=h
  exact⟨h0,himm b h1,ents,h2,h3,h4,ih1 _ h5 hb.1,ih2 _ h6 hb.2,h7⟩
 ·intro vs h _;simpa [RepL] using h
 ·intro x xs ih1 ih2 vs h hb
  simp only[SV.underL,Bool.and_eq_true] at hb
  obtain⟨u,us,h1,h2,h3⟩:=RepL.cons_iff.1 h
  exact RepL.cons_iff.2 ⟨u,us,ih1 u h1 hb.1,ih2 us h2 hb.2,h3⟩
theorem Cx.cut {θ:Nat→Option (Nat×Nat)} {H X:List Blk} {w:World} (hc:HeapOK ⟨θ,H++X,w⟩) (hcl:closed H):HeapOK ⟨θ,H,w⟩∧∀ C:Cx,C.H.length≤H.length→Grow C ⟨θ,H++X,w⟩→Grow C ⟨θ,H,w⟩:=by
 have hget:∀ (id:Nat) (B:Blk),H[id]? =some B→(H++X)[id]? =some B:=fun id B h=>by
  rw[List.getElem?_append_left (List.getElem?_eq_some_iff.1 h).1];exact h
 refine⟨⟨fun id B hB=>?_,fun i j b o o' ⟨Bi,h1,h2⟩ ⟨Bj,h3,h4⟩ h5 h6=>hc.inj i j b o o' ⟨Bi,hget i Bi h1,h2⟩ ⟨Bj,hget j Bj h3,h4⟩ h5 h6⟩,fun C hC hg=>?_⟩
 ·have hb:=hc.blk id B (hget id B hB)
  have hbel:=hcl B (List.mem_of_getElem? hB)
  cases B with
  |dead=>trivial
  |obj o=>exact hb
  |cells g sz vals=>
   rcases hb with hb|⟨b,o,cs,T,fr,vs,h1,h2,h3,h4,h5,h6⟩
   ·exact .inl hb
   ·exact .inr ⟨b,o,cs,T,fr,vs,h1,h2,h3,Rep.cut_both.2 _ _ h4 hbel,h5,h6⟩
  |map kd es=>
   obtain⟨b,ents,clk,h1,h2,h3,h4⟩:=hb
   have hE:∀ {es:List (SV×SV)} {l:List MapEntry},RepE ⟨θ,H++X,w⟩ es l→belowE H.length es=true→RepE ⟨θ,H,w⟩ es l:=by
    intro es
    induction es with
    |nil=>intro l h _;exact h
    |cons p es ih=>
     intro l h hb
     obtain⟨q,x⟩:=p
     simp only[RepE] at h ⊢
     simp only[belowE,Bool.and_eq_true] at hb
     obtain⟨e,es',a1,a2,a3,a4⟩:=h
     exact⟨e,es',Rep.cut_both.1 _ _ a1 hb.1.1,Rep.cut_both.1 _ _ a2 hb.1.2,ih a3 hb.2,a4⟩
   exact⟨b,ents,clk,h1,h2,hE h3 hbel,h4⟩
 ·refine⟨hg.os,hg.tape,hg.output,hg.size,hg.old,hg.shape,fun id B hB=>?_,fun id b o hn hl ht=>?_⟩
  ·obtain⟨B',h1,h2⟩:=hg.ids id B hB
   have hlt:id<H.length:=Nat.lt_of_lt_of_le (List.getElem?_eq_some_iff.1 hB).1 hC
   have h1':(H++X)[id]? =some B':=h1
   rw[List.getElem?_append_left hlt] at h1'
   exact⟨B',h1',h2⟩
  ·obtain⟨B,h1,h2⟩:=hl
   exact hg.new id b o hn ⟨B,hget id B h1,h2⟩ ht
section
variable {P:Program} {G:Gl} {T:Tab} {own:List Nat} {nt B:Nat} {ρ:Option Nat} {C:Cx}
def Wk (G:Gl) (nt:Nat) (C:Cx) (s s2:St):Prop:=
 ∀ c a,c.H=s.H→Inv G nt C.w.heap.size c s.env a→Grow C c→∃ c',c'.H=s2.H∧c'.w=c.w∧Inv G nt C.w.heap.size c' s2.env a∧Grow C c'
def GClosed (G:Gl):Prop:=∀ p∈G.l,SV.under 0 p.2=true
theorem SV.below_mono_both {n m:Nat} (h:n≤m):(∀ x:SV,x.under n=true→x.under m=true)∧(∀ xs:List SV,SV.underL n xs=true→SV.underL m xs=true):=by
 apply SV.both
 ·intro x h1 h2 h3 h4 h5 h6 hb
  cases x with
  |agg fs=>exact absurd rfl (h1 fs)
  |list n xs=>exact absurd rfl (h2 n xs)
  |pto y=>exact absurd rfl (h3 y)
  |fn f a b=>exact absurd rfl (h4 f a b)
  |tuple xs=>exact absurd rfl (h5 xs)
  |imap b clk born kd ks vs=>exact absurd rfl (h6 b clk born kd ks vs)
  |ptr id g i off=>simp only[SV.under,decide_eq_true_eq] at hb ⊢;omega
  |sl id g off len=>simp only[SV.under,decide_eq_true_eq] at hb ⊢;omega
  |map id=>simp only[SV.under,decide_eq_true_eq] at hb ⊢;omega
  |it id=>simp only[SV.under,decide_eq_true_eq] at hb ⊢;omega
  |_=>rfl
 ·intro fs ih hb;exact ih hb
 ·intro n xs ih hb;exact ih hb
 ·intro x ih hb;exact ih hb
 ·intro f a b ih1 ih2 hb
  simp only[SV.under,Bool.and_eq_true] at hb ⊢
  exact⟨ih1 hb.1,ih2 hb.2⟩
 ·intro xs ih hb;exact ih hb
 ·intro b clk born kd ks vs ih1 ih2 hb
  simp only[SV.under,Bool.and_eq_true] at hb ⊢
  exact⟨ih1 hb.1,ih2 hb.2⟩
 ·intro _;rfl
 ·intro x xs ih1 ih2 hb
  simp only[SV.underL,Bool.and_eq_true] at hb ⊢
  exact⟨ih1 hb.1,ih2 hb.2⟩
theorem Wk.cut (hG:GClosed G) {env env2:Env} {H X:List Blk} (hB:Based G H.length) (hC:C.H.length≤H.length) (hcl:closed H) (he:∀ t x,look env2 t=some x→look env t=some x∧x.under H.length=true):Wk G nt C ⟨env,H++X⟩ ⟨env2,H⟩:=by
 rintro⟨θ,Hc,w⟩ a hc hi hg
 simp only at hc
 subst hc
 obtain⟨h1,h2⟩:=Cx.cut hi.heap hcl
 refine⟨⟨θ,H,w⟩,rfl,rfl,⟨h1,⟨fun p hp=>Rep.cut_both.1 _ _ (hi.glob.1 p hp) ((SV.below_mono_both (Nat.zero_le _)).1 _ (hG p hp)),fun C0 h0=>h2 C0 (hB C0 h0) (hi.glob.2 C0 h0)⟩,hi.size,fun t x hx=>?_,?_⟩,h2 C hC hg⟩
 ·obtain⟨e1,e2⟩:=he t x hx
  exact Rep.cut_both.1 _ _ (hi.env t x e1) e2
 ·refine⟨fun d hd=>?_,hi.defs.2⟩
  obtain⟨r,q1,q2,q3,q4⟩:=hi.defs.1 d hd
  refine⟨r,q1,q2,⟨q3.1,fun⟨id,o,⟨B,hB,hl⟩,ht⟩=>q3.2 ⟨id,o,⟨B,?_,hl⟩,ht⟩⟩,q4⟩
  show(H++X)[id]? =some B
  rw[List.getElem?_append_left (List.getElem?_eq_some_iff.1 hB).1];exact hB
theorem Wk.env {env env2:Env} {H:List Blk} (he:∀ t x,look env2 t=some x→look env t=some x):Wk G nt C ⟨env,H⟩ ⟨env2,H⟩:=
 fun c a hc hi hg=>⟨c,hc,rfl,⟨hi.heap,hi.glob,hi.size,fun t x hx=>hi.env t x (he t x hx),hi.defs⟩,hg⟩
theorem AWP.wk {cd:Code} {Q:Exit→St→Prop} {s s2:St} (hw:Wk G nt C s s2) (h:AWP P G nt ρ C cd Q s2):AWP P G nt ρ C cd Q s:=by
 intro c a hc hi hg
 obtain⟨c',e1,e2,e3,e4⟩:=hw c a hc hi hg
 rw[← e2]
 exact h c' a e1 e3 e4
theorem AWP.loopW {x:Code} {Q:Exit→St→Prop} {s:St} (I:Nat→St→Prop) (n:Nat) (s0:St) (hs:Wk G nt C s s0) (h0:I n s0)
 (round:∀ n s,I n s→AWP P G nt ρ C x (fun e s'=>match e with
  | .normal=>∃ m s2,m<n∧Wk G nt C s' s2∧I m s2
  |e=>Q e s') s):AWP P G nt ρ C (.loop x) Q s:=by
 refine AWP.wk hs ?_
 intro c a hc hi hg
 refine wpIn_loopN (fun m a' w'=>∃ s' c',I m s'∧c'.H=s'.H∧c'.w=w'∧Inv G nt C.w.heap.size c' s'.env a'∧Grow C c') n ⟨s0,c,h0,hc,rfl,hi,hg⟩ ?_
 rintro j a w ⟨s',c',h1,h2,rfl,h3,h4⟩
 refine wpIn_mono (round j s' h1 c' a h2 h3 h4) ?_
 rintro e a' w' ⟨s2,c2,g1,g2,g3,g4,g5⟩
 cases e with
 |normal=>
  obtain⟨m,s3,hm,hwk,g1⟩:=g1
  obtain⟨c3,e1,e2,e3,e4⟩:=hwk c2 a' g2 g4 g5
  exact⟨m,hm,s3,c3,g1,e1,e2.trans g3,e3,e4⟩
 |_=>exact⟨s2,c2,g1,g2,g3,g4,g5⟩
end
end
section
theorem cells_ne {w:World} {b r:Nat} {cs:Array Value} {T:TypeId} {fr:Nat×Nat} {ds:Option (List Deferred)} (h:w.heap[b]? =some (.cells cs T fr)) (hr:w.heap[r]? =some (.deferred ds)):b≠r:=fun e=>by rw[e,hr] at h;cases h
theorem putObj_other (w:World) (r b:Nat) (o:Obj) (h:b≠r):(w.putObj r o).heap[b]? =w.heap[b]? :=World.putObj_heap_other h
theorem rangeAt_poke {w:World} {b o r:Nat} {cs:List Value} {ds:Option (List Deferred)} (h:w.rangeAt b o cs) (hr:w.heap[r]? =some (.deferred ds)) (o':Obj):(w.putObj r o').rangeAt b o cs:=fun j v hv=>by
 have hc:=h j v hv
 have hb:b≠r:=fun e=>by subst e;simp[World.cell?,hr] at hc
 rw[World.cell?_of_block (w:=w) (w':=w.putObj r o') (putObj_other w r b o' hb)]
 exact hc
theorem Rep.poke_both {θ:Nat→Option (Nat×Nat)} {H:List Blk} {w:World} {r:Nat} {ds:Option (List Deferred)} (hr:w.heap[r]? =some (.deferred ds)) (o':Obj):
 (∀ x v,Rep ⟨θ,H,w⟩ x v→Rep ⟨θ,H,w.putObj r o'⟩ x v)∧(∀ xs vs,RepL ⟨θ,H,w⟩ xs vs→RepL ⟨θ,H,w.putObj r o'⟩ xs vs):=by
 have hsz:(w.putObj r o').heap.size=w.heap.size:=by simp[World.putObj]
 have himm:∀ b,Cx.imm ⟨θ,H,w⟩ b→Cx.imm ⟨θ,H,w.putObj r o'⟩ b:=fun b ⟨h1,h2⟩=>⟨by show b<(w.putObj r o').heap.size;rw[hsz];exact h1,h2⟩
 apply SV.both
 ·intro x h1 h2 h3 h4 h5 h6 v h
  cases x with
  |agg fs=>exact absurd rfl (h1 fs)
  |list n xs=>exact absurd rfl (h2 n xs)
  |pto y=>exact absurd rfl (h3 y)
  |fn f a b=>exact absurd rfl (h4 f a b)
  |tuple xs=>exact absurd rfl (h5 xs)
  |imap b clk born kd ks vs=>exact absurd rfl (h6 b clk born kd ks vs)
  |sl id g off len=>
   simp only[Rep] at h ⊢
   refine⟨h.1,?_⟩
   have h:=h.2
   cases hB:H[id]? with
   |none=>simp[hB] at h
   |some B=>
    simp only[hB] at h
    cases B with
    |cells g' sz vals=>
     simp only at h ⊢
     rcases h with h|⟨e,q1,aa,cap,q2,q3,q4,q5⟩
     ·exact .inl h
     ·refine .inr ⟨e,q1,aa,cap,q2,q3,q4,?_⟩
      rcases q5 with q5|⟨b,o,cs,T,fr,q5,q6,q7,q8⟩
      ·exact .inl q5
      ·exact .inr ⟨b,o,cs,T,fr,q5,q6,by rw[putObj_other w r b o' (cells_ne q7 hr)];exact q7,q8⟩
    |_=>exact h
  |_=>exact h
 ·intro fs ih v h
  simp only[Rep] at h ⊢
  obtain⟨vs,h1,h2⟩:=h
  exact⟨vs,ih vs h1,h2⟩
 ·intro sz xs ih v h
  simp only[Rep] at h ⊢
  obtain⟨a,cap,h0,h1,h2,h3⟩:=h
  refine⟨a,cap,h0,h1,h2,?_⟩
  rcases h3 with h3|⟨b,o,vs,h3,h4,h5,h6,h7⟩
  ·exact .inl h3
  ·exact .inr ⟨b,o,vs,h3,ih vs h4,h5,rangeAt_poke h6 hr o',himm b h7⟩
 ·intro x ih v h
  simp only[Rep] at h ⊢
  obtain⟨b,o,u,h0,h1,h2,h3,h4⟩:=h
  exact⟨b,o,u,h0,ih u h1,h2,rangeAt_poke h3 hr o',himm b h4⟩
 ·intro f xs ys ih1 ih2 v h
  simp only[Rep] at h ⊢
  obtain⟨us,vs,h0,h1,h2⟩:=h
  exact⟨us,vs,ih1 us h0,ih2 vs h1,h2⟩
 ·intro xs ih v h
  simp only[Rep] at h ⊢
  obtain⟨vs,h0,h1⟩:=h
  exact⟨vs,ih vs h0,h1⟩
 ·intro b clk born kd ks vs ih1 ih2 v h
  simp only[Rep] at h ⊢
  obtain⟨h0,h1,ents,h2,h3,h4,h5,h6,h7⟩:=h
  exact⟨h0,himm b h1,ents,by rw[putObj_other w r b o' (fun e=>by rw[e] at h2;rw[hr] at h2;cases h2)];exact h2,h3,h4,ih1 _ h5,ih2 _ h6,h7⟩
 ·intro vs h;simpa [RepL] using h
 ·intro x xs ih1 ih2 vs h
  obtain⟨u,us,h1,h2,h3⟩:=RepL.cons_iff.1 h
  exact RepL.cons_iff.2 ⟨u,us,ih1 u h1,ih2 us h2,h3⟩
theorem Cx.poke {θ:Nat→Option (Nat×Nat)} {H:List Blk} {w:World} (hc:HeapOK ⟨θ,H,w⟩) {r:Nat} {ds:Option (List Deferred)} (hr:w.heap[r]? =some (.deferred ds)) (him:Cx.imm ⟨θ,H,w⟩ r) (o':Obj):
 HeapOK ⟨θ,H,w.putObj r o'⟩∧∀ C:Cx,C.w.heap.size≤r→Grow C ⟨θ,H,w⟩→Grow C ⟨θ,H,w.putObj r o'⟩:=by
 have hsz:(w.putObj r o').heap.size=w.heap.size:=by simp[World.putObj]
 refine⟨⟨fun id B hB=>?_,hc.inj⟩,fun C hC hg=>?_⟩
 ·have hb:=hc.blk id B hB
  have hne:∀ b o,B.isLive=true→θ id=some (b,o)→b≠r:=fun b o hl ht e=>him.2 ⟨id,o,⟨B,hB,hl⟩,e ▸ ht⟩
  cases B with
  |dead=>trivial
  |obj ob=>obtain⟨b,h1,h2,h3⟩:=hb;exact⟨b,h1,by rw[show(w.putObj r o').heap[b]? =w.heap[b]? from putObj_other w r b o' (hne b 0 rfl h1)];exact h2,h3⟩
  |cells g sz vals=>
   rcases hb with hb|⟨b,o,cs,T,fr,vs,h1,h2,h3,h4,h5,h6⟩
   ·exact .inl hb
   ·exact .inr ⟨b,o,cs,T,fr,vs,h1,by rw[show(w.putObj r o').heap[b]? =w.heap[b]? from putObj_other w r b o' (hne b o rfl h1)];exact h2,h3,(Rep.poke_both hr o').2 _ _ h4,h5,rangeAt_poke h6 hr o'⟩
  |map kd es=>
   obtain⟨b,ents,clk,h1,h2,h3,h4⟩:=hb
   have hE:∀ {es:List (SV×SV)} {l:List MapEntry},RepE ⟨θ,H,w⟩ es l→RepE ⟨θ,H,w.putObj r o'⟩ es l:=by
    intro es
    induction es with
    |nil=>intro l h;exact h
    |cons p es ih=>
     intro l h
     obtain⟨q,x⟩:=p
     simp only[RepE] at h ⊢
     obtain⟨e,es',a1,a2,a3,a4⟩:=h
     exact⟨e,es',(Rep.poke_both hr o').1 _ _ a1,(Rep.poke_both hr o').1 _ _ a2,ih a3,a4⟩
   exact⟨b,ents,clk,h1,by rw[show(w.putObj r o').heap[b]? =w.heap[b]? from putObj_other w r b o' (hne b 0 rfl h1)];exact h2,hE h3,h4⟩
 ·refine⟨hg.os,hg.tape,hg.output,by show _≤(w.putObj r o').heap.size;rw[hsz];exact hg.size,fun b hb ho=>?_,fun b cs T fr h=>?_,hg.ids,hg.new⟩
  ·show(w.putObj r o').heap[b]? =_
   rw[putObj_other w r b o' (by omega)];exact hg.old b hb ho
  ·obtain⟨cs',fr',h1,h2⟩:=hg.shape b cs T fr h
   exact⟨cs',fr',by show(w.putObj r o').heap[b]? =_;rw[putObj_other w r b o' (cells_ne h1 hr)];exact h1,h2⟩
def resL (T:Tab) (env:Env) (H:List Blk):List ResultVar→Option (List SV)
 |[]=>some []
 | .tmp t::r=>match look env t with
  |some x=>(match resL T env H r with
   |some xs=>some (x::xs)
   |none=>none)
  |none=>none
 | .cell t ty::r=>match look env t with
  |some p=>(match T.get ty with
   |some i=>(match loadSV H i p with
    |some x=>(match resL T env H r with
     |some xs=>some (x::xs)
     |none=>none)
    |none=>none)
   |none=>none)
  |none=>none
def resSV:List SV→SV
 |[x]=>x
 |xs=> .tuple xs
def Fin (C:Cx) (H:List Blk) (x:SV) (R:SV→List Blk→Prop):Prop:=
 ∀ c v,c.H=H→HeapOK c→Rep c x v→Grow C c→∃ c' y,c'.w=c.w∧R y c'.H∧HeapOK c'∧Rep c' y v∧Grow C c'
def RetK (C:Cx) (T:Tab) (rs:List ResultVar) (R:SV→List Blk→Prop) (e:Exit) (env:Env) (H:List Blk):Prop:=
 match e with
 | .normal| .ret=>bindO (resL T env H rs) fun xs=>Then (Fin C H (resSV xs) R)
 |_=>False
def initEnv:List SV→Nat→Env
 |[],_=>[]
 |x::r,i=>(i,x)::initEnv r (i+1)
section
variable {P:Program} {G:Gl} {T:Tab} {own:List Nat} {nt B:Nat} {ρ:Option Nat} {C:Cx} {c:Cx} {env:Env} {a:Act}
def NearW (w w':World):Prop:=∀ r:Nat,w'.heap[r]? =w.heap[r]? ∨∃ ds0:Option (List Deferred),w.heap[r]? =some (Obj.deferred ds0)
theorem rangeAt_near {w w':World} (hw:NearW w w') {b o:Nat} {cs:List Value} (h:w.rangeAt b o cs):w'.rangeAt b o cs:=fun j v hv=>by
 have hc:=h j v hv
 rcases hw b with e|⟨ds,e⟩
 ·rw[World.cell?_of_block (w:=w) (w':=w') e];exact hc
 ·simp[World.cell?,e] at hc
def resOne (tmps:Array Value):ResultVar→Sem Value
 | .tmp t=>pure (tmps.getD t undef)
 | .cell x t=>do loadVar t (← asAddr (tmps.getD x undef))
theorem results_eq (fn:Func) (tmps:Array Value):results fn tmps=(do
 let vs ← fn.results.mapM (resOne tmps)
 pure (if h:vs.size=1 then vs[0] else .tuple vs)):=by
 refine congrArg (fun f:ResultVar→Sem Value=>(do
  let vs ← fn.results.mapM f
  pure (if h:vs.size=1 then vs[0] else Value.tuple vs):Sem Value)) ?_
 funext r
 cases r<;>rfl
theorem resL_ok (hT:TabOK P T) (hi:Inv G nt B c env a):∀ {rs:List ResultVar} {xs:List SV},resL T env c.H rs=some xs→∃ vs,RepL c xs vs∧∀ w',NearW c.w w'→
 (rs.mapM (resOne a.tmps)).run P w'= .ok vs w'
 |[],xs,h=>by simp only[resL,Option.some.injEq] at h;subst h;exact⟨[],RepL.mk_nil,fun w' _=>by simp⟩
 | .tmp t::r,xs,h=>by
  simp only[resL] at h
  split at h
  ·rename_i x hx
   split at h
   ·rename_i ys hy
    cases h
    obtain⟨vs,h1,h2⟩:=resL_ok hT hi hy
    exact⟨_::vs,RepL.mk_cons (hi.env t x hx) h1,fun w' hw=>by simp[List.mapM_cons,resOne,h2 w' hw]⟩
   ·cases h
  ·cases h
 | .cell t ty::r,xs,h=>by
  simp only[resL] at h
  split at h
  ·rename_i p hp
   split at h
   ·rename_i i hti
    split at h
    ·rename_i x hx
     split at h
     ·rename_i ys hy
      cases h
      obtain⟨vs,h1,h2⟩:=resL_ok hT hi hy
      obtain⟨b,o,u,e1,e2,e3,e4⟩:=load_ok hi.heap (hi.env t p hp) hx
      exact⟨u::vs,RepL.mk_cons e2 h1,fun w' hw=>by
       have hl:=run_loadVar_sv (hT _ _ hti) e2 e3 (rangeAt_near hw e4)
       simp[List.mapM_cons,resOne,e1,asAddr,hl,h2 w' hw]⟩
     ·cases h
    ·cases h
   ·cases h
  ·cases h
theorem leaves_ok {fn:Func} {R:SV→List Blk→Prop} {C0:Cx}:∀ (ds:List Deferred) (c:Cx),HeapOK c→DefOK C0.w.heap.size c ds→Grow C0 c→∀ (x:SV) (v:Value) (tmps:Array Value),Rep c x v→R x c.H→
 (∀ w',NearW c.w w'→(results fn tmps).run P w'= .ok v w')→
 LeavesInM (FR none) 0 P fn tmps (RetOK C0 R) ds .returning c.w
 |[],c,hc,hd,hg,x,v,tmps,hx,hR,hrun=>⟨v,hrun c.w (fun r=> .inl rfl),v,x,c,rfl,rfl,hR,hc,hx,hg⟩
 |d::ds,c,hc,hd,hg,x,v,tmps,hx,hR,hrun=>by
  obtain⟨r,rfl,h1,h2,h3⟩:=hd.1 d (List.mem_cons_self ..)
  obtain⟨θ,H,w⟩:=c
  have hp:=Cx.poke hc h1 h2 (.deferred none)
  refine⟨by simp,.inl ⟨r,w.putObj r (.deferred none),rfl,run_takeDeferred h1,?_⟩⟩
  have hd':DefOK C0.w.heap.size ⟨θ,H,w.putObj r (.deferred none)⟩ ds:=by
   have hpw:=List.pairwise_cons.1 hd.2
   refine⟨fun d' hd'=>?_,hpw.2⟩
   obtain⟨r',q1,q2,q3,q4⟩:=hd.1 d' (List.mem_cons_of_mem _ hd')
   have hne:r'≠r:=fun e=>hpw.1 d' hd' r rfl (by rw[q1,e])
   refine⟨r',q1,?_,⟨?_,q3.2⟩,q4⟩
   ·show(w.putObj r _).heap[r']? =_
    rw[putObj_other w r r' _ hne];exact q2
   ·show r'<(w.putObj r _).heap.size
    have:=q3.1
    simpa [World.putObj] using this
  refine leaves_ok ds ⟨θ,H,w.putObj r (.deferred none)⟩ hp.1 hd' (hp.2 C0 h3 hg) x v tmps ((Rep.poke_both h1 _).1 _ _ hx) hR fun w' hw'=>hrun w' fun r'=>?_
  by_cases e:r'=r
  ·exact .inr ⟨_,by rw[e];exact h1⟩
  ·rcases hw' r' with h|⟨ds0,h⟩
   ·left;rw[h];exact putObj_other w r r' _ e
   ·right;exact⟨ds0,by rw[← h];exact(putObj_other w r r' _ e).symm⟩
theorem initEnv_ok:∀ {xs:List SV} {vs:List Value} {i:Nat} {t:Nat} {x:SV},RepL c xs vs→look (initEnv xs i) t=some x→∃ j,t=i+j∧∃ v,vs[j]? =some v∧Rep c x v
 |[],vs,i,t,x,_,h=>by cases h
 |y::xs,vs,i,t,x,hr,h=>by
  obtain⟨u,us,h1,h2,rfl⟩:=RepL.cons_iff.1 hr
  simp only[initEnv,look] at h
  split at h
  ·rename_i e;cases h;exact⟨0,e,u,rfl,h1⟩
  ·obtain⟨j,e,v,h3,h4⟩:=initEnv_ok h2 h
   exact⟨j+1,by omega,v,by simpa using h3,h4⟩
theorem ACall.of_awp (hT:TabOK P T) {f:FuncId} {fn:Func} {cd:Code} {args:List SV} {H:List Blk} {R:SV→List Blk→Prop} (hf:P.funcs[f]? =some fn) (hb:fn.body=some cd) (hname:(fn.name== "runtime.NumGoroutine")=false)
 (hnt:fn.ntmps=nt) (hlen:args.length≤nt) {rs:List ResultVar} (hrs:fn.results.toList=rs)
 (h:∀ C:Cx,C.H=H→closed H→Based G C.H.length→AWP P G nt none C cd (fun e s=>RetK C T rs R e s.env s.H) ⟨initEnv args 0,H⟩):ACall P G f args H R:=by
 refine⟨⟨fn,hf,hname,by rw[hb];rfl⟩,fun c vs hH hc hG hv=>?_⟩
 have hcl:closed H:=hH ▸ hc.closed
 refine callsIn_of_wp_marks hf hb trivial ?_ rfl
 have hvl:vs.length=args.length:=hv.length
 have hinv:Inv G nt c.w.heap.size c (initEnv args 0) { tmps:=vs.toArray++Array.replicate (fn.ntmps - vs.toArray.size) undef,defers:=[]}:=by
  refine⟨hc,hG,by simp;omega,fun t x hx=>?_,⟨by simp,List.Pairwise.nil⟩⟩
  obtain⟨j,e,v,h1,h2⟩:=initEnv_ok hv hx
  have hj:j<vs.length:=(List.getElem?_eq_some_iff.1 h1).1
  have:(vs.toArray++Array.replicate (fn.ntmps - vs.toArray.size) undef).getD t undef=v:=by
   rw[Array.getD_eq_getD_getElem?,Array.getElem?_append_left (by simp;omega)]
   rw[e,Nat.zero_add,List.getElem?_toArray,h1];rfl
  rw[this];exact h2
 have hA:=h c hH hcl hG.based c _ hH hinv (Grow.refl c)
 refine wpIn_mono hA ?_
 rintro e a' w' ⟨⟨env',H'⟩,c',h1,h2,rfl,h3,h4⟩
 have fin:bindO (resL T env' H' rs) (fun xs=>Then (Fin c H' (resSV xs) R))→LeavesInM (FR none) 0 P fn a'.tmps (RetOK c R) a'.defers .returning c'.w:=fun hq=>by
  obtain⟨xs,q1,q2⟩:=hq
  simp only at h2
  rw[← h2] at q1 q2
  obtain⟨vs',k1,k2⟩:=resL_ok hT h3 q1
  have hval:Rep c' (resSV xs) (if hs:vs'.toArray.size=1 then vs'.toArray[0] else .tuple vs'.toArray):=by
   have hl:=k1.length
   cases xs with
   |nil=>rw[RepL.nil_iff.1 k1];simp only[resSV,Rep];exact⟨[],RepL.mk_nil,by simp⟩
   |cons x xs=>
    cases xs with
    |nil=>
     obtain⟨u,us,e1,e2,rfl⟩:=RepL.cons_iff.1 k1
     rw[RepL.nil_iff.1 e2]
     simpa [resSV] using e1
    |cons y ys=>
     have:¬ vs'.toArray.size=1:=by simp at hl ⊢;omega
     rw[dif_neg this]
     simp only[resSV,Rep]
     exact⟨vs',k1,rfl⟩
  obtain⟨c2,y,e1,e2,e3,e4,e5⟩:=q2 c' _ rfl h3.heap hval h4
  rw[← e1]
  have hdef:DefOK c.w.heap.size c2 a'.defers:=by
   refine⟨fun d hd=>?_,h3.defs.2⟩
   obtain⟨r,g1,g2,g3,g4⟩:=h3.defs.1 d hd
   rw[← e1] at g2
   refine⟨r,g1,g2,⟨by rw[e1];exact g3.1,?_⟩,g4⟩
   rintro⟨id,o,⟨B,hB,hl⟩,ht⟩
   have hb:=e3.blk id B hB
   cases B with
   |dead=>cases hl
   |obj ob=>obtain⟨b,q1,q2,q3⟩:=hb;rw[ht] at q1;cases q1;rw[g2] at q2;cases q2;exact q3 _ rfl
   |map _ _=>obtain⟨b,_,_,q1,q2,_⟩:=hb;rw[ht] at q1;cases q1;rw[g2] at q2;cases q2
   |cells _ _ _=>
    rcases hb with⟨q1,_⟩|⟨b,_,_,_,_,_,q1,q2,_⟩
    ·rw[ht] at q1;cases q1
    ·rw[ht] at q1;cases q1;rw[g2] at q2;cases q2
  refine leaves_ok a'.defers c2 e3 hdef e5 y _ a'.tmps e4 e2 fun w2 hw2=>?_
  rw[e1] at hw2
  have hrun:=k2 w2 hw2
  have:(fn.results.mapM (resOne a'.tmps)).run P w2= .ok vs'.toArray w2:=by
   rw[Array.mapM_eq_mapM_toList,hrs,Sem.run_map,hrun];rfl
  rw[results_eq,Sem.run_bind,this]
  rfl
 cases e with
 |normal=>exact fin h1
 |ret=>exact fin h1
 |_=>exact h1.elim
end
def Told (x y:SV):Prop:=y=x∨(x= .nil∧∃ n,y= .list n [])
def ToldL:List SV→List SV→Prop
 |[],[]=>True
 |x::xs,y::ys=>Told x y∧ToldL xs ys
 |_,_=>False
theorem Told.rep {c:Cx} {x y:SV} {v:Value} (h:Told x y) (hr:Rep c x v):Rep c y v:=by
 rcases h with rfl|⟨rfl,n,rfl⟩
 ·exact hr
 ·simp only[Rep] at hr ⊢
  exact⟨none,0,hr,Nat.le_refl _,Nat.zero_le _,by simp⟩
theorem ToldL.rep {c:Cx}:∀ {xs ys:List SV} {vs:List Value},ToldL xs ys→RepL c xs vs→RepL c ys vs
 |[],[],vs,_,hr=>hr
 |x::xs,y::ys,vs,h,hr=>by
  obtain⟨u,us,h1,h2,rfl⟩:=RepL.cons_iff.1 hr
  exact RepL.mk_cons (h.1.rep h1) (h.2.rep h2)
 |[],_::_,_,h,_=>h.elim
 |_::_,[],_,h,_=>h.elim
def Told2:SV→SV→Prop
 | .agg xs,.agg ys=>ToldL xs ys
 |x,y=>Told x y
theorem ToldL.refl:∀ xs:List SV,ToldL xs xs
 |[]=>trivial
 |x::xs=>⟨.inl rfl,ToldL.refl xs⟩
theorem Told2.refl (x:SV):Told2 x x:=by
 cases x with
 |agg xs=>exact ToldL.refl xs
 |_=>exact .inl rfl
theorem Told2.rep {c:Cx} {x y:SV} {v:Value} (h:Told2 x y) (hr:Rep c x v):Rep c y v:=by
 unfold Told2 at h
 split at h
 ·simp only[Rep] at hr ⊢
  obtain⟨vs,h1,h2,h3⟩:=hr
  exact⟨vs,h.rep h1,h2,h3⟩
 ·exact h.rep hr
theorem tiOK_of {P:Program} {t:Nat} {i:TI} (z0:SV) (hz0:Told2 z0 i.zero) (h1:tdOK P t i.d) (h2:(P.info? t).map (fun j=>(j.size,j.bytes,j.zero.bind constSV,j.zero.map fun z=>z.cells.size))=some (i.size,i.bytes,some z0,some i.size)):tiOK P t i:=by
 refine⟨h1,?_⟩
 cases hi:P.info? t with
 |none=>rw[hi] at h2;cases h2
 |some info=>
  rw[hi] at h2
  simp only[Option.map_some,Option.some.injEq,Prod.mk.injEq] at h2
  obtain⟨a1,a2,a3,a4⟩:=h2
  cases hz:info.zero with
  |none=>rw[hz] at a3;cases a3
  |some z=>
   rw[hz] at a3 a4
   exact⟨info,z,rfl,a1,a2,hz,fun c=>⟨hz0.rep (constSV_rep a3 c).1,(constSV_rep a3 c).2⟩,by simpa using a4⟩
theorem TabOK.nil {P:Program}:TabOK P []:=fun t i h=>by cases h
theorem TabOK.cons {P:Program} {k:Nat} {x:TI} {T:Tab} (h:tiOK P k x) (r:TabOK P T):TabOK P ((k,x)::T):=fun t i hi=>by
 simp only[Tab.get] at hi
 cases e:Nat.beq t k with
 |true=>
  rw[e,cond_true] at hi
  cases hi
  have:=Nat.eq_of_beq_eq_true e
  subst this
  exact h
 |false=>
  rw[e,cond_false] at hi
  exact r t i hi
end
section
section
variable {P:Program} {G:Gl} {T:Tab} {own:List Nat} {nt B:Nat} {ρ:Option Nat} {C:Cx} {env:Env} {H:List Blk} {k:Exit→Env→List Blk→Prop}
def Goes (K Y:Env→List Blk→Prop):Prop:=∀ env H,Y env H→K env H
theorem Goes.go {K Y:Env→List Blk→Prop} {env:Env} {H:List Blk} (h:Goes K Y) (y:Y env H):K env H:=h env H y
theorem constSV_int (kd:IntKind) (n:Int) (h:kd.min≤n∧n≤kd.max):constSV (.int kd n)=some (.int kd n):=by simp[constSV,constCell,h]
theorem constSV_i64 (n:Int) (h: -9223372036854775808≤n∧n<9223372036854775808):constSV (.int .i64 n)=some (.int .i64 n):=constSV_int _ _ (by
 have h1:IntKind.i64.min= -9223372036854775808:=by decide
 have h2:IntKind.i64.max=9223372036854775807:=by decide
 rw[h1,h2];omega)
theorem constSV_u8 (n:Int) (h:0≤n∧n<256):constSV (.int .u8 n)=some (.int .u8 n):=constSV_int _ _ (by
 have h1:IntKind.u8.min=0:=by decide
 have h2:IntKind.u8.max=255:=by decide
 rw[h1,h2];omega)
theorem constSV_bool (b:Bool):constSV (.bool b)=some (.bool b):=rfl
theorem constSV_nil:constSV (.slice none 0 0)=some .nil:=rfl
theorem constSV_nilptr:constSV (.pointer none)=some .nilptr:=rfl
theorem constSV_nilmap:constSV (.map none)=some .nilmap:=rfl
theorem wrap_i64 (n:Int) (h: -9223372036854775808≤n∧n<9223372036854775808):IntKind.i64.wrap n=n:=by
 simp only[IntKind.wrap,IntKind.bits,IntKind.signed]
 simp
 omega
theorem int_le_true {a b:Int} (h:a≤b):(a≤b)=True:=eq_true h
theorem nat_le_true {a b:Nat} (h:a≤b):(a≤b)=True:=eq_true h
theorem nat_lt_true {a b:Nat} (h:a<b):(a<b)=True:=eq_true h
theorem Then.mk {p:Prop} (h:p):Then p:=h
def subEnv:Env→Env→Prop
 |[],_=>True
 |(t,x)::r,env=>look env t=some x∧subEnv r env
theorem subEnv.look:∀ {env2 env:Env},subEnv env2 env→∀ t x,look env2 t=some x→look env t=some x
 |[],_,_,t,x,h=>by cases h
 |(t',x')::r,env,hs,t,x,h=>by
  simp only[Go.Proofs.YtggmfabkpnfodaaDoor.look] at h
  split at h
  ·rename_i e;cases h;subst e;exact hs.1
  ·exact hs.2.look t x h
theorem Wk.refl (s:St):Wk G nt C s s:=fun c a h1 h2 h3=>⟨c,h1,rfl,h2,h3⟩
theorem Wk.sub {env2:Env} (h:subEnv env2 env):Wk G nt C ⟨env,H⟩ ⟨env2,H⟩:=Wk.env h.look
def Back (p:Prop):Prop:=p
theorem Back.go {p:Prop} (h:Back p):p:=h
theorem Fin.same {x:SV} {R:SV→List Blk→Prop} (h:R x H):Fin C H x R:=fun c v h1 h2 h3 h4=>⟨c,x,rfl,by rw[h1];exact h,h2,h3,h4⟩
theorem Fin.then {x:SV} {R:SV→List Blk→Prop} (h:R x H):Then (Fin C H x R):=Fin.same h
end
end
abbrev Str:=List UInt8
mutual
inductive Ex where
 |mk (kind:Int) (name:Str) (n op:Int) (names:List Str) (subs:List Ex) (binds:List Bd) (alts:List Al)
inductive Bd where
 |mk (name:Str) (e:Ex)
inductive Al where
 |mk (kind:Int) (name:Str) (n:Int) (names:List Str) (body:Ex)
end
def Bd.name:Bd→Str
 | .mk s _=>s
def Bd.e:Bd→Ex
 | .mk _ e=>e
def Al.kind:Al→Int
 | .mk k _ _ _ _=>k
def Al.name:Al→Str
 | .mk _ s _ _ _=>s
def Al.n:Al→Int
 | .mk _ _ n _ _=>n
def Al.names:Al→List Str
 | .mk _ _ _ l _=>l
def Al.body:Al→Ex
 | .mk _ _ _ _ e=>e
mutual
def Ex.cells:Ex→List SV
 | .mk k s n op l subs binds alts=>[.int .i64 k,.str s,.int .i64 n,.int .i64 op,.list 1 (l.map .str),.list 8 (exCells subs),.list 9 (bdCells binds),.list 12 (alCells alts)]
def exCells:List Ex→List SV
 |[]=>[]
 |e::r=> .agg e.cells::exCells r
def Bd.cells:Bd→List SV
 | .mk s e=> .str s::e.cells
def bdCells:List Bd→List SV
 |[]=>[]
 |b::r=> .agg b.cells::bdCells r
def Al.cells:Al→List SV
 | .mk k s n l e=> .int .i64 k:: .str s:: .int .i64 n:: .list 1 (l.map .str)::e.cells
def alCells:List Al→List SV
 |[]=>[]
 |a::r=> .agg a.cells::alCells r
end
def Ex.sv (e:Ex):SV:= .agg e.cells
def Bd.sv (b:Bd):SV:= .agg b.cells
def Al.sv (a:Al):SV:= .agg a.cells
theorem Ex.cells_len (e:Ex):e.cells.length=8:=by cases e;rfl
theorem Bd.cells_len (b:Bd):b.cells.length=9:=by cases b;simp[Bd.cells,Ex.cells_len]
theorem Al.cells_len (a:Al):a.cells.length=12:=by cases a;simp[Al.cells,Ex.cells_len]
theorem exCells_map:∀ l:List Ex,exCells l=l.map Ex.sv
 |[]=>rfl
 |e::r=>by rw[exCells,exCells_map r];rfl
theorem bdCells_map:∀ l:List Bd,bdCells l=l.map Bd.sv
 |[]=>rfl
 |e::r=>by rw[bdCells,bdCells_map r];rfl
theorem alCells_map:∀ l:List Al,alCells l=l.map Al.sv
 |[]=>rfl
 |e::r=>by rw[alCells,alCells_map r];rfl
theorem Ex.cells_take (e:Ex):e.cells.take 8=e.cells:=List.take_of_length_le (by rw[e.cells_len];exact Nat.le_refl _)
theorem Bd.cells_eq (b:Bd):b.cells= .str b.name::b.e.cells:=by cases b;rfl
theorem Al.cells_eq (a:Al):a.cells= .int .i64 a.kind:: .str a.name:: .int .i64 a.n:: .list 1 (a.names.map .str)::a.body.cells:=by cases a;rfl
mutual
def Ex.size:Ex→Nat
 | .mk _ _ _ _ _ subs binds alts=>1+exsSize subs+bdsSize binds+alsSize alts
def exsSize:List Ex→Nat
 |[]=>0
 |e::r=>e.size+exsSize r
def Bd.size:Bd→Nat
 | .mk _ e=>e.size
def bdsSize:List Bd→Nat
 |[]=>0
 |b::r=>b.size+bdsSize r
def Al.size:Al→Nat
 | .mk _ _ _ _ e=>e.size
def alsSize:List Al→Nat
 |[]=>0
 |a::r=>a.size+alsSize r
end
section
theorem get_app0 (H L:List Blk):(H++L)[H.length]? =L[0]? :=by rw[List.getElem?_append_right (Nat.le_refl _),Nat.sub_self]
theorem get_app (H L:List Blk) (k:Nat):(H++L)[H.length+k]? =L[k]? :=by simp[List.getElem?_append_right]
theorem get_old {H L:List Blk} {id:Nat} (h:id<H.length):(H++L)[id]? =H[id]? :=List.getElem?_append_left h
theorem set_app0 (H L:List Blk) (x:Blk):(H++L).set H.length x=H++L.set 0 x:=by simp[List.set_append]
theorem set_app (H L:List Blk) (k:Nat) (x:Blk):(H++L).set (H.length+k) x=H++L.set k x:=by simp[List.set_append]
theorem set_old {H L:List Blk} {id:Nat} (h:id<H.length) (x:Blk):(H++L).set id x=H.set id x++L:=by simp[List.set_append,h]
theorem belowE_mono {n m:Nat} (h:n≤m):∀ {es:List (SV×SV)},belowE n es=true→belowE m es=true
 |[],_=>rfl
 |p::r,hb=>by
  simp only[belowE,Bool.and_eq_true] at hb ⊢
  exact⟨⟨(SV.below_mono_both h).1 _ hb.1.1,(SV.below_mono_both h).1 _ hb.1.2⟩,belowE_mono h hb.2⟩
theorem Blk.under_mono {n m:Nat} (h:n≤m) {B:Blk} (hb:B.under n=true):B.under m=true:=by
 cases B with
 |cells _ _ vals=>exact(SV.below_mono_both h).2 _ hb
 |map _ es=>exact belowE_mono h hb
 |_=>rfl
theorem closed.app {H:List Blk} (h:closed H) {L:List Blk} (hb:∀ b∈L,b.under (H.length+L.length)=true):closed (H++L):=by
 intro B hB
 rw[List.length_append]
 rcases List.mem_append.1 hB with h1|h1
 ·exact Blk.under_mono (by omega) (h B h1)
 ·exact hb B h1
theorem closed.set {H:List Blk} (h:closed H) {id:Nat} {b:Blk} (hb:b.under H.length=true):closed (H.set id b):=by
 intro B hB
 rw[List.length_set]
 rcases List.mem_or_eq_of_mem_set hB with h1|h1
 ·exact h B h1
 ·subst h1;exact hb
mutual
theorem Ex.cells_under (n:Nat):∀ e:Ex,SV.underL n e.cells=true
 | .mk k s m op l subs binds alts=>by
  simp only[Ex.cells,SV.underL,SV.under,strs_under,exCells_under,bdCells_under,alCells_under,Bool.and_self]
theorem exCells_under (n:Nat):∀ l:List Ex,SV.underL n (exCells l)=true
 |[]=>rfl
 |e::r=>by simp only[exCells,SV.underL,SV.under,Ex.cells_under n e,exCells_under n r,Bool.and_self]
theorem Bd.cells_under (n:Nat):∀ b:Bd,SV.underL n b.cells=true
 | .mk s e=>by simp only[Bd.cells,SV.underL,SV.under,Ex.cells_under n e,Bool.and_self]
theorem bdCells_under (n:Nat):∀ l:List Bd,SV.underL n (bdCells l)=true
 |[]=>rfl
 |e::r=>by simp only[bdCells,SV.underL,SV.under,Bd.cells_under n e,bdCells_under n r,Bool.and_self]
theorem Al.cells_under (n:Nat):∀ b:Al,SV.underL n b.cells=true
 | .mk k s m l e=>by simp only[Al.cells,SV.underL,SV.under,strs_under,Ex.cells_under n e,Bool.and_self]
theorem alCells_under (n:Nat):∀ l:List Al,SV.underL n (alCells l)=true
 |[]=>rfl
 |e::r=>by simp only[alCells,SV.underL,SV.under,Al.cells_under n e,alCells_under n r,Bool.and_self]
theorem strs_under (n:Nat):∀ l:List Str,SV.underL n (l.map .str)=true
 |[]=>rfl
 |e::r=>by simp only[List.map,SV.underL,SV.under,strs_under n r,Bool.and_self]
end
theorem Ex.sv_under (n:Nat) (e:Ex):e.sv.under n=true:=Ex.cells_under n e
section
variable {P:Program} {G:Gl} {nt:Nat} {C:Cx} {env:Env} {H:List Blk}
def subEnvU (n:Nat):Env→Env→Prop
 |[],_=>True
 |(t,x)::r,env=>(look env t=some x∧x.under n=true)∧subEnvU n r env
theorem subEnvU.look {n:Nat}:∀ {env2 env:Env},subEnvU n env2 env→∀ t x,look env2 t=some x→look env t=some x∧x.under n=true
 |[],_,_,t,x,h=>by cases h
 |(t',x')::r,env,hs,t,x,h=>by
  simp only[Go.Proofs.YtggmfabkpnfodaaDoor.look] at h
  split at h
  ·rename_i e;cases h;subst e;exact hs.1
  ·exact hs.2.look t x h
theorem Fin.cut {X:List Blk} {x:SV} {R:SV→List Blk→Prop} (hC:C.H.length≤H.length) (hcl:closed H) (hx:x.under H.length=true) (h:R x H):Then (Fin C (H++X) x R):=by
 rintro⟨θ,Hc,w⟩ v h1 h2 h3 h4
 simp only at h1
 subst h1
 obtain⟨k1,k2⟩:=Cx.cut h2 hcl
 exact⟨⟨θ,H,w⟩,x,rfl,h,k1,Rep.cut_both.1 _ _ h3 hx,k2 C hC h4⟩
end
end
theorem exCells_len (l:List Ex):(exCells l).length=l.length:=by simp[exCells_map]
theorem bdCells_len (l:List Bd):(bdCells l).length=l.length:=by simp[bdCells_map]
theorem alCells_len (l:List Al):(alCells l).length=l.length:=by simp[alCells_map]
theorem exCells_get (l:List Ex) (i:Nat):(exCells l)[i]? =l[i]?.map fun e=> .agg e.cells:=by rw[exCells_map,List.getElem?_map];rfl
theorem bdCells_get (l:List Bd) (i:Nat):(bdCells l)[i]? =l[i]?.map fun e=> .agg (.str e.name::e.e.cells):=by
 rw[bdCells_map,List.getElem?_map]
 have:Bd.sv=fun e=> .agg (.str e.name::e.e.cells):=by funext e;rw[Bd.sv,Bd.cells_eq]
 rw[this]
theorem alCells_get (l:List Al) (i:Nat):(alCells l)[i]? =l[i]?.map fun a=> .agg (.int .i64 a.kind:: .str a.name:: .int .i64 a.n:: .list 1 (a.names.map .str)::a.body.cells):=by
 rw[alCells_map,List.getElem?_map]
 have:Al.sv=fun a=> .agg (.int .i64 a.kind:: .str a.name:: .int .i64 a.n:: .list 1 (a.names.map .str)::a.body.cells):=by funext e;rw[Al.sv,Al.cells_eq]
 rw[this]
def Ex.kind:Ex→Int| .mk k _ _ _ _ _ _ _=>k
def Ex.name:Ex→Str| .mk _ s _ _ _ _ _ _=>s
def Ex.n:Ex→Int| .mk _ _ n _ _ _ _ _=>n
def Ex.op:Ex→Int| .mk _ _ _ o _ _ _ _=>o
def Ex.names:Ex→List Str| .mk _ _ _ _ l _ _ _=>l
def Ex.subs:Ex→List Ex| .mk _ _ _ _ _ l _ _=>l
def Ex.binds:Ex→List Bd| .mk _ _ _ _ _ _ l _=>l
def Ex.alts:Ex→List Al| .mk _ _ _ _ _ _ _ l=>l
def Ex.parts (e:Ex):List Ex:=e.subs++(e.binds.map Bd.e++e.alts.map Al.body)
theorem Ex.parts_mk (k:Int) (s:Str) (n o:Int) (l:List Str) (subs:List Ex) (binds:List Bd) (alts:List Al):(Ex.mk k s n o l subs binds alts).parts=subs++(binds.map Bd.e++alts.map Al.body):=rfl
def strsWt:List Str→Nat
 |[]=>0
 |s::r=>1+s.length+strsWt r
mutual
def Ex.wt:Ex→Nat
 | .mk _ s _ _ l subs binds alts=>1+s.length+strsWt l+exsWt subs+bdsWt binds+alsWt alts
def exsWt:List Ex→Nat
 |[]=>0
 |e::r=>e.wt+exsWt r
def Bd.wt:Bd→Nat
 | .mk s e=>1+s.length+e.wt
def bdsWt:List Bd→Nat
 |[]=>0
 |b::r=>b.wt+bdsWt r
def Al.wt:Al→Nat
 | .mk _ s _ l e=>1+s.length+strsWt l+e.wt
def alsWt:List Al→Nat
 |[]=>0
 |a::r=>a.wt+alsWt r
end
theorem Ex.wt_pos (e:Ex):0<e.wt:=by cases e;simp only[Ex.wt];omega
theorem Bd.wt_gt (b:Bd):b.e.wt<b.wt:=by cases b;simp only[Bd.wt,Bd.e];omega
theorem Al.wt_gt (b:Al):b.body.wt<b.wt:=by cases b;simp only[Al.wt,Al.body];omega
theorem strsWt_len:∀ l:List Str,l.length≤strsWt l
 |[]=>Nat.le_refl _
 |s::r=>by simp only[List.length_cons,strsWt];have:=strsWt_len r;omega
theorem exsWt_len:∀ l:List Ex,l.length≤exsWt l
 |[]=>Nat.le_refl _
 |e::r=>by simp only[List.length_cons,exsWt];have:=exsWt_len r;have:=e.wt_pos;omega
theorem bdsWt_len:∀ l:List Bd,l.length≤bdsWt l
 |[]=>Nat.le_refl _
 |e::r=>by simp only[List.length_cons,bdsWt];have:=bdsWt_len r;have:=e.wt_gt;omega
theorem alsWt_len:∀ l:List Al,l.length≤alsWt l
 |[]=>Nat.le_refl _
 |e::r=>by simp only[List.length_cons,alsWt];have:=alsWt_len r;have:=e.wt_gt;omega
theorem exsWt_mem:∀ {l:List Ex} {e:Ex},e∈l→e.wt≤exsWt l
 |x::r,e,h=>by
  simp only[exsWt]
  rcases List.mem_cons.1 h with rfl|h
  ·omega
  ·have:=exsWt_mem h;omega
theorem bdsWt_mem:∀ {l:List Bd} {e:Bd},e∈l→e.wt≤bdsWt l
 |x::r,e,h=>by
  simp only[bdsWt]
  rcases List.mem_cons.1 h with rfl|h
  ·omega
  ·have:=bdsWt_mem h;omega
theorem alsWt_mem:∀ {l:List Al} {e:Al},e∈l→e.wt≤alsWt l
 |x::r,e,h=>by
  simp only[alsWt]
  rcases List.mem_cons.1 h with rfl|h
  ·omega
  ·have:=alsWt_mem h;omega
theorem Ex.wt_parts {e p:Ex} (h:p∈e.parts):p.wt<e.wt:=by
 obtain⟨k,s,n,o,l,subs,binds,alts⟩:=e
 rw[Ex.parts_mk] at h
 simp only[Ex.wt]
 rcases List.mem_append.1 h with h|h
 ·have:=exsWt_mem h;omega
 ·rcases List.mem_append.1 h with h|h
  ·obtain⟨b,hb,rfl⟩:=List.mem_map.1 h
   have:=bdsWt_mem hb;have:=b.wt_gt;omega
  ·obtain⟨b,hb,rfl⟩:=List.mem_map.1 h
   have:=alsWt_mem hb;have:=b.wt_gt;omega
theorem Ex.wt_lens (k:Int) (s:Str) (n o:Int) (l:List Str) (subs:List Ex) (binds:List Bd) (alts:List Al):l.length+subs.length+binds.length+alts.length<(Ex.mk k s n o l subs binds alts).wt:=by
 have h1:=strsWt_len l;have h2:=exsWt_len subs;have h3:=bdsWt_len binds;have h4:=alsWt_len alts
 simp only[Ex.wt];omega
section
def ob {α β:Type} (x:Option α) (f:α→Option β):Option β:=x.bind f
theorem ob_some {α β:Type} (a:α) (f:α→Option β):ob (some a) f=f a:=rfl
@[congr] theorem ob_congr {α β:Type} {x y:Option α} {f:α→Option β} (h:x=y):ob x f=ob y f:=by rw[h]
theorem ob_eq {α β:Type} {x:Option α} {f:α→Option β} {b:β} (h:ob x f=some b):∃ a,x=some a∧f a=some b:=by
 cases x with
 |none=>cases h
 |some a=>exact⟨a,rfl,h⟩
def chk {α:Type} (p:Prop) [Decidable p] (x:Option α):Option α:=if p then x else none
theorem chk_eq {α:Type} {p:Prop} [Decidable p] {x:Option α} {b:α} (h:chk p x=some b):p∧x=some b:=by
 unfold chk at h
 split at h
 ·exact⟨‹_›,h⟩
 ·cases h
theorem chk_true {α:Type} {p:Prop} [Decidable p] (h:p) (x:Option α):chk p x=x:=if_pos h
def bb {α:Type} (b:Bool) (x y:Option α):Option α:=match b with
 |true=>x
 |false=>y
theorem bb_true {α:Type} (x y:Option α):bb true x y=x:=rfl
theorem bb_false {α:Type} (x y:Option α):bb false x y=y:=rfl
@[congr] theorem bb_congr {α:Type} {b b':Bool} {x y:Option α} (h:b=b'):bb b x y=bb b' x y:=by rw[h]
def isNilC:Operand→Bool
 | .const (.slice none 0 0)=>true
 | .const (.map none)=>true
 | .const (.pointer none)=>true
 |_=>false
def nilH (H:List Blk) (y:Operand):List Blk:=match isNilC y with
 |true=>H
 |false=>[]
theorem nilH_blk {H:List Blk} {y:Operand} {id g:Nat} {q:Nat×List SV} (h:blkOf (nilH H y) id g=some q):blkOf H id g=some q:=by
 unfold nilH at h
 split at h
 ·exact h
 ·simp[blkOf] at h
theorem nilH_map {H:List Blk} {y:Operand} {id:Nat} {q:Unit} (h:isMapB (nilH H y) id=some q):isMapB H id=some q:=by
 unfold nilH at h
 split at h
 ·exact h
 ·simp[isMapB] at h
def ifcV (b:Bool) (op:BinOp) (x:SV):Option SV:=
 match x with
 | .ifc z=>(match op with
  | .eql=>chk (b=true) (some (.bool z))
  | .neq=>chk (b=true) (some (.bool (!z)))
  |_=>none)
 |_=>none
theorem ifcV_ok {b:Bool} {op:BinOp} {x v:SV} {k:SV→Prop} (h:ifcV b op x=some v) (hk:k v):ifcSV b op x k:=by
 unfold ifcV at h
 split at h
 ·split at h
  ·obtain⟨h1,h2⟩:=chk_eq h;cases h2;exact⟨h1,hk⟩
  ·obtain⟨h1,h2⟩:=chk_eq h;cases h2;exact⟨h1,hk⟩
  ·cases h
 ·cases h
def binV (H:List Blk) (tb:Nat) (op:BinOp) (x y:SV):Option SV:=
 match x,y with
 | .int i a,.int j b=>
  match op with
  | .shl=>chk (0≤b) (some (.int i (i.wrap (a*2 ^ (min b.toNat i.bits)))))
  | .shr=>chk (0≤b) (some (.int i (a.fdiv (2 ^ (min b.toNat i.bits)))))
  | .add=>chk (i=j) (some (.int i (i.wrap (a+b))))
  | .sub=>chk (i=j) (some (.int i (i.wrap (a - b))))
  | .mul=>chk (i=j) (some (.int i (i.wrap (a*b))))
  | .quo=>chk (i=j∧b≠0) (some (.int i (i.wrap (a.tdiv b))))
  | .rem=>chk (i=j∧b≠0) (some (.int i (a.tmod b)))
  | .and=>chk (i=j) (ob (bitsI .and i a b) fun n=>some (.int i n))
  | .or=>chk (i=j) (ob (bitsI .or i a b) fun n=>some (.int i n))
  | .xor=>chk (i=j) (ob (bitsI .xor i a b) fun n=>some (.int i n))
  | .andNot=>chk (i=j) (ob (bitsI .andNot i a b) fun n=>some (.int i n))
  | .eql=>chk (i=j) (some (.bool (decide (a=b))))
  | .neq=>chk (i=j) (some (.bool (decide (a≠b))))
  | .lss=>chk (i=j) (some (.bool (decide (a<b))))
  | .leq=>chk (i=j) (some (.bool (decide (a≤b))))
  | .gtr=>chk (i=j) (some (.bool (decide (b<a))))
  | .geq=>chk (i=j) (some (.bool (decide (b≤a))))
 | .str a,.str b=>
  match op with
  | .add=>chk (a.length+b.length≤maxLen) (some (.str (a++b)))
  | .eql=>some (.bool (decide (a=b)))
  | .neq=>some (.bool (decide (a≠b)))
  | .lss=>some (.bool (strLess a b))
  | .gtr=>some (.bool (!(strLess a b||decide (a=b))))
  | .leq=>some (.bool (strLess a b||decide (a=b)))
  | .geq=>some (.bool (!strLess a b))
  |_=>none
 | .bool a,.bool b=>
  match op with
  | .eql=>chk (tb=1) (some (.bool (a==b)))
  | .neq=>chk (tb=1) (some (.bool (!(a==b))))
  |_=>none
 | .nil,.nil=>
  match op with
  | .eql=>chk (tb=2) (some (.bool true))
  | .neq=>chk (tb=2) (some (.bool false))
  |_=>none
 | .list _ (_::_),.nil=>
  match op with
  | .eql=>chk (tb=2) (some (.bool false))
  | .neq=>chk (tb=2) (some (.bool true))
  |_=>none
 | .sl id g _ (_+1),.nil=>
  match op with
  | .eql=>ob (blkOf H id g) fun _=>chk (tb=2) (some (.bool false))
  | .neq=>ob (blkOf H id g) fun _=>chk (tb=2) (some (.bool true))
  |_=>none
 | .nilmap,.nilmap=>
  match op with
  | .eql=>chk (tb=3) (some (.bool true))
  | .neq=>chk (tb=3) (some (.bool false))
  |_=>none
 | .map id,.nilmap=>
  match op with
  | .eql=>ob (isMapB H id) fun _=>chk (tb=3) (some (.bool false))
  | .neq=>ob (isMapB H id) fun _=>chk (tb=3) (some (.bool true))
  |_=>none
 | .nilptr,.nilptr=>
  match op with
  | .eql=>chk (tb=4) (some (.bool true))
  | .neq=>chk (tb=4) (some (.bool false))
  |_=>none
 | .ptr id g _ _,.nilptr=>
  match op with
  | .eql=>ob (blkOf H id g) fun _=>chk (tb=4) (some (.bool false))
  | .neq=>ob (blkOf H id g) fun _=>chk (tb=4) (some (.bool true))
  |_=>none
 | .pto _,.nilptr=>
  match op with
  | .eql=>chk (tb=4) (some (.bool false))
  | .neq=>chk (tb=4) (some (.bool true))
  |_=>none
 | .agg xs,.agg ys=>
  match op with
  | .eql=>chk (tb=5+codeSV xs∧codeSV ys=codeSV xs) (ob (eqSL xs ys) fun b=>some (.bool b))
  | .neq=>chk (tb=5+codeSV xs∧codeSV ys=codeSV xs) (ob (eqSL xs ys) fun b=>some (.bool (!b)))
  |_=>none
 |_,_=>none
theorem binV_ok {H:List Blk} {yo:Operand} {tb:Nat} {op:BinOp} {x y v:SV} {k:SV→Prop} (h:binV (nilH H yo) tb op x y=some v) (hk:k v):binSV H tb op x y k:=by
 unfold binV at h
 split at h
 ·rename_i i a j b
  cases op<;>simp only at h<;>first
   |(cases h;done)
   |(obtain⟨h1,h2⟩:=chk_eq h;cases h2;simp only[binSV,Need,cmpI,bindO_some,Bool.not_eq_true',decide_not] at hk ⊢;first
    |exact⟨h1,hk⟩
    |(rw[if_pos h1];exact hk)
    |(rw[if_pos h1.1];exact⟨h1.2,hk⟩))
   |(obtain⟨h1,h2⟩:=chk_eq h;obtain⟨n,h3,h4⟩:=ob_eq h2;cases h4;simp only[binSV,if_pos h1,h3,bindO_some];exact hk)
 ·rename_i a b
  cases op<;>simp only at h<;>first
   |(cases h;done)
   |(cases h;simp only[binSV,cmpS,bindO_some,decide_not,Need] at hk ⊢;exact hk)
   |(obtain⟨h1,h2⟩:=chk_eq h;cases h2;exact⟨h1,hk⟩)
 ·rename_i a b
  cases op<;>simp only at h<;>first
   |(cases h;done)
   |(obtain⟨h1,h2⟩:=chk_eq h;cases h2;exact⟨h1,hk⟩)
 all_goals first
  |(cases h;done)
  |(cases op<;>simp only at h<;>first
   |(cases h;done)
   |(obtain⟨h1,h2⟩:=chk_eq h;cases h2;exact⟨h1,hk⟩)
   |(obtain⟨h1,h2⟩:=chk_eq h;cases h2;exact⟨h1,(by intro e;cases e),hk⟩)
   |(obtain⟨h1,h2⟩:=chk_eq h;obtain⟨b,h3,h4⟩:=ob_eq h2;cases h4;exact⟨h1,b,h3,hk⟩)
   |(obtain⟨q,h0,h⟩:=ob_eq h;obtain⟨h1,h2⟩:=chk_eq h;cases h2;exact⟨q,nilH_blk h0,h1,hk⟩)
   |(obtain⟨q,h0,h⟩:=ob_eq h;obtain⟨h1,h2⟩:=chk_eq h;cases h2;exact⟨q,nilH_map h0,h1,hk⟩)
   |(obtain⟨q,h0,h⟩:=ob_eq h;obtain⟨h1,h2⟩:=chk_eq h;cases h2;exact⟨q,nilH_blk h0,h1,(by intro e;cases e),hk⟩))
def unV (op:UnOp) (x:SV):Option SV:=
 match op,x with
 | .not,.bool b=>some (.bool (!b))
 | .neg,.int i n=>some (.int i (i.wrap (0 - n)))
 |_,_=>none
def lenV (H:List Blk) (i:TI) (v:SV):Option SV:=
 chk (lenFits H i.d v=true) (ob (lenSV H v) fun n=>match i.d with
  | .map _ _=>chk (n≤9223372036854775807) (some (.int .i64 n))
  |_=>some (.int .i64 n))
def gv (b want:Bool) (x:SV):SV:=match b,want with
 |true,true=>x
 |false,false=>x
 |_,_=> .undef
theorem gv_tt (x:SV):gv true true x=x:=rfl
theorem gv_ff (x:SV):gv false false x=x:=rfl
theorem gv_tf (x:SV):gv true false x= .undef:=rfl
theorem gv_ft (x:SV):gv false true x= .undef:=rfl
theorem gv_self (b:Bool) (x:SV):gv b b x=x:=by cases b<;>rfl
theorem gv_T {b:Bool} (x:SV) (h:b=true):gv b true x=x:=by subst h;rfl
theorem gv_F {b:Bool} (x:SV) (h:b=false):gv b false x=x:=by subst h;rfl
theorem gv_dT {a:Prop} {inst:Decidable a} (x:SV) (h:a):gv (decide a) true x=x:=by rw[decide_eq_true h];rfl
theorem gv_dF {a:Prop} {inst:Decidable a} (x:SV) (h:¬ a):gv (decide a) false x=x:=by rw[decide_eq_false h];rfl
theorem gv_dTu {a:Prop} {inst:Decidable a} (x:SV) (h:¬ a):gv (decide a) true x= .undef:=by rw[decide_eq_false h];rfl
theorem gv_dFu {a:Prop} {inst:Decidable a} (x:SV) (h:a):gv (decide a) false x= .undef:=by rw[decide_eq_true h];rfl
theorem gv_Tu {b:Bool} (x:SV) (h:b=false):gv b true x= .undef:=by subst h;rfl
theorem gv_Fu {b:Bool} (x:SV) (h:b=true):gv b false x= .undef:=by subst h;rfl
def pk (b:Bool) (x y:SV):SV:=match b with
 |true=>x
 |false=>y
theorem pk_true (x y:SV):pk true x y=x:=rfl
theorem pk_false (x y:SV):pk false x y=y:=rfl
theorem pk_gvT (b:Bool) (x y:SV):pk b (gv b true x) y=pk b x y:=by cases b<;>rfl
theorem pk_gvF (b:Bool) (x y:SV):pk b x (gv b false y)=pk b x y:=by cases b<;>rfl
theorem pk_bT (b q:Bool):pk b (.bool true) (.bool q)= .bool (b||q):=by cases b<;>rfl
theorem pk_bF (b p:Bool):pk b (.bool p) (.bool false)= .bool (b&&p):=by cases b<;>rfl
theorem pk_bTr (b p:Bool):pk b (.bool p) (.bool true)= .bool (!b||p):=by cases b<;>rfl
theorem pk_bFl (b q:Bool):pk b (.bool false) (.bool q)= .bool (!b&&q):=by cases b<;>rfl
def qv (G:Gl) (T:Tab) (own:List Nat) (env:Env) (H:List Blk) (dst:Option Nat) (ty:Nat):Op→Option SV
 | .move x=>ev G env x
 | .assign x=>bb (isIn dst own) (ob (elemOf T ty) fun _=>ob (ev G env x) fun v=>match v with
  | .nil=>none
  |v=>some v) (ev G env x)
 | .pick c x y=>ob (ev G env c) fun v=>ob (asB v) fun g=>ob (ev G env x) fun X=>ob (ev G env y) fun Y=>some (pk g X Y)
 | .build t parts=>ob (T.get t) fun i=>chk (fieldsKnown T i.d=true∧i.zero.isAgg=true) (ob (partsOf T i.d G env parts.toList) fun ps=>putAll i.zero ps)
 | .buildSlice t len parts=>ob (elemOf T t) fun e=>chk (((len*e.2.size≤16777216∧0<e.2.size)∧fits e.2 e.2.zero=true)∧(len==0||isIn dst own)=false) (ob (fillAll e.2 G env (List.replicate len e.2.zero) parts.toList) fun xs=>
  some (.list e.2.size xs))
 | .load t x=>ob (T.get t) fun i=>ob (ev G env x) fun p=>loadSV H i p
 | .nilCheck x=>ob (ev G env x) fun v=>chk (okPtr H v=true) (some v)
 | .binOp op t x y _=>ob (ev G env x) fun a=>ob (ev G env y) fun b=>bb (isNilI y) (ifcV (isIfc T t) op a) (binV (nilH H y) (kindT T t) op a b)
 | .unOp op _ x=>ob (ev G env x) fun a=>unV op a
 | .convert st dt x=>ob (T.get st) fun si=>ob (T.get dt) fun i=>ob (ev G env x) fun v=>match i.d,v with
  | .int j,.int _ n=>some (.int j (j.wrap n))
  | .str,.str s=>some (.str s)
  | .str,v=>chk (sliceU8 T si.d=true∧szOK H 1 v=true) (ob (seqOf H v) fun xs=>ob (strOf xs) fun s=>some (.str s))
  |_,_=>none
 | .makeFunc fn first cap=>ob (evs G env first.toList) fun xs=>ob (evs G env cap.toList) fun ys=>some (.fn fn xs ys)
 | .slice t x lo hi none=>ob (T.get t) fun i=>ob (ev G env x) fun v=>ob (lenSV H v) fun n=>ob (boundOf G env lo 0) fun l=>ob (boundOf G env hi n) fun h=>
  chk (0≤l∧l≤h∧(h≤(n:Int)∨h≤(capSV H v:Int))) (ob (cutSV l.toNat h.toNat v) fun y=>match i.d with
   | .slice _=>ob (elemOf T t) fun e=>chk ((seqOf H v).isSome=true∧szOK H e.2.size v=true) (some y)
   | .str=>(match v with
    | .str _=>some y
    |_=>none)
   |_=>none)
 | .fieldAddr t x f=>ob (fieldOf T t f) fun p=>ob (ev G env x) fun v=>chk (okPtr H v=true) (fieldPtr p.1 p.2 v)
 | .field t x f=>ob (fieldOf T t f) fun p=>ob (ev G env x) fun v=>chk (v.isAgg=true) (sub v p.1 p.2)
 | .indexAddr t x i=>ob (ev G env x) fun s=>ob (ev G env i) fun iv=>ob (asI iv) fun n=>
  bb (isPtr s) (ob (arrOf T t) fun p=>chk ((0≤n∧n<(p.1:Int))∧okPtr H s=true) (fieldPtr (n.toNat*p.2.size) p.2 s))
  (ob (elemOf T t) fun e=>ob (seqOf H s) fun xs=>
  chk (0≤n) (ob xs[n.toNat]? fun y=>match s with
   | .list sz _=>chk (sz=e.2.size) (some (.pto y))
   | .sl id g off _=>ob (blkOf H id g) fun b=>chk (b.1=e.2.size) (some (.ptr id g (off+n.toNat) 0))
   |_=>none))
 | .index t x i=>ob (T.get t) fun ti=>ob (ev G env x) fun s=>ob (ev G env i) fun iv=>ob (asI iv) fun n=>(match ti.d,s with
  | .str,.str bs=>chk (0≤n) (ob bs[n.toNat]? fun b=>some (.int .u8 b.toNat))
  | .array m e,.agg fs=>chk (0≤n∧n<(m:Int)) (ob (T.get e) fun ie=>sub (.agg fs) (n.toNat*ie.size) ie)
  |_,_=>none)
 | .lookup t m key ok=>ob (mapTypes T t) fun p=>ob (ev G env m) fun v=>ob (mapOf H p.1 v) fun es=>ob (ev G env key) fun kx=>chk (keyIs p.1 kx=true)
  (some (if ok then .tuple [(findSV es kx).getD p.2.zero,.bool (findSV es kx).isSome] else (findSV es kx).getD p.2.zero))
 | .extract x j=>ob (ev G env x) fun v=>match v with
  | .tuple xs=>xs[j]?
  |_=>none
 | .call ⟨.builtin .len,⟨[x]⟩,⟨[t]⟩⟩=>ob (T.get t) fun i=>ob (ev G env x) fun v=>lenV H i v
 | .call ⟨.builtin .min,⟨[x,y]⟩,_⟩=>ob (ev G env x) fun x=>ob (ev G env y) fun y=>match x,y with
  | .int i a,.int _ b=>chk (i.min≤b∧b≤i.max) (some (.int i (if b<a then b else a)))
  |_,_=>none
 | .call ⟨.builtin .max,⟨[x,y]⟩,_⟩=>ob (ev G env x) fun x=>ob (ev G env y) fun y=>match x,y with
  | .int i a,.int _ b=>chk (i.min≤b∧b≤i.max) (some (.int i (if a<b then b else a)))
  |_,_=>none
 |_=>none
def appV (H:List Blk) (e:TI) (s:SV) (ys:List SV):Option (SV×List Blk):=
 match s with
 | .nil=>chk (0<e.bytes∧ys.length*e.bytes≤70368744177664) (some (.sl H.length 0 0 ys.length,H++[.cells 0 e.size ys]))
 | .sl id g off len=>ob (blkOf H id g) fun b=>chk ((0<e.bytes∧b.1=e.size)∧off+len=b.2.length∧(len+ys.length)*e.bytes≤70368744177664)
  (some (.sl id (g+1) 0 (len+ys.length),H.set id (.cells (g+1) e.size (b.2.drop off++ys))))
 |_=>none
def copyV (H:List Blk) (e:TI) (d:SV) (ys:List SV):Option (SV×List Blk):=
 match d with
 | .sl id g off len=>ob (blkOf H id g) fun b=>chk (b.1=e.size∧0<e.size∧off+len≤b.2.length)
  (some (.int .i64 (min ys.length len:Nat),H.set id (.cells g e.size (b.2.take off++ys.take (min ys.length len)++b.2.drop (off+min ys.length len)))))
 |_=>none
def clearV (H:List Blk) (e:TI) (x:SV):Option (SV×List Blk):=
 match x with
 | .nil=>some (.tuple [],H)
 | .sl id g off len=>ob (blkOf H id g) fun b=>chk (b.1=e.size∧0<e.size∧off+len≤b.2.length)
  (some (.tuple [],H.set id (.cells g e.size (b.2.take off++List.replicate len e.zero++b.2.drop (off+len)))))
 |_=>none
def lv (G:Gl) (T:Tab) (own:List Nat) (env:Env) (H:List Blk) (dst:Option Nat) (ty:Nat):Op→Option (SV×List Blk)
 | .assign x=>bb (isIn dst own) (ob (elemOf T ty) fun e=>ob (ev G env x) fun v=>match v with
  | .nil=>some (.sl H.length 0 0 0,H++[.cells 0 e.2.size []])
  |_=>none) none
 | .alloc t=>ob (T.get t) fun i=>some (.ptr H.length 0 0 0,H++[.cells 0 i.size [i.zero]])
 | .box t x=>ob (T.get t) fun i=>ob (ev G env x) fun v=>chk (fits i v=true) (some (.ptr H.length 0 0 0,H++[.cells 0 i.size [v]]))
 | .buildSlice t len parts=>ob (elemOf T t) fun e=>chk (((len*e.2.size≤16777216∧0<e.2.size)∧fits e.2 e.2.zero=true)∧(len==0||isIn dst own)=true) (ob (fillAll e.2 G env (List.replicate len e.2.zero) parts.toList) fun xs=>
  some (.sl H.length 0 0 len,H++[.cells 0 e.2.size xs]))
 | .store t x y=>ob (T.get t) fun i=>ob (ev G env x) fun p=>ob (ev G env y) fun v=>ob (storeSV H i v p) fun H'=>some (.undef,H')
 | .makeMap t none=>ob (mapTypes T t) fun p=>some (.map H.length,H++[.map p.1 []])
 | .convert st dt x=>ob (T.get st) fun si=>ob (T.get dt) fun i=>ob (ev G env x) fun v=>match i.d,v with
  | .slice e,.sl id g off len=>chk (isU8 T e=true∧st=dt∧0<len) (ob (blkOf H id g) fun b=>chk (b.1=1) (some (.sl id g off len,H)))
  | .slice e,.str s=>chk (isU8 T e=true) (some (.sl H.length 0 0 s.length,H++[.cells 0 1 (strBytes s)]))
  | .str,.str _=>none
  | .str,v=>chk (sliceU8 T si.d=true∧szOK H 1 v=true) (ob (seqOf H v) fun xs=>ob (strOf xs) fun s=>some (.str s,H))
  |_,_=>none
 | .makeSlice t x y=>ob (elemOf T t) fun e=>ob (ev G env x) fun xv=>ob (asI xv) fun n=>ob (ev G env y) fun yv=>ob (asI yv) fun m=>
  chk (m=n∧0≤n∧0<e.2.bytes∧0<e.2.size∧n.toNat*e.2.bytes≤70368744177664) (chk (fits e.2 e.2.zero=true) (some (.sl H.length 0 0 n.toNat,H++[.cells 0 e.2.size (List.replicate n.toNat e.2.zero)])))
 | .slice t x lo (some hi) (some mx)=>ob (elemOf T t) fun e=>ob (ev G env x) fun v=>ob (lenSV H v) fun n=>ob (boundOf G env lo 0) fun l=>ob (boundOf G env (some hi) 0) fun h=>ob (boundOf G env (some mx) 0) fun m=>
  chk (0≤l∧l≤h∧h≤m∧m≤(n:Int)) (chk ((seqOf H v).isSome=true) (some (.sl H.length 0 0 0,H++[.dead])))
 | .call ⟨.builtin .copy,⟨[d,s]⟩,⟨[t,ts]⟩⟩=>ob (elemOf T t) fun e=>ob (elemOf T ts) fun _=>ob (ev G env d) fun d=>ob (ev G env s) fun s=>ob (seqOf H s) fun ys=>chk (szOK H e.2.size s=true) (copyV H e.2 d ys)
 | .call ⟨.builtin .clear,⟨[x]⟩,⟨[t]⟩⟩=>ob (elemOf T t) fun e=>ob (ev G env x) fun x=>clearV H e.2 x
 | .mapUpdate t m key x=>ob (mapTypes T t) fun p=>ob (ev G env m) fun v=>(match v with
  | .map id=>ob (mapOf H p.1 v) fun es=>ob (ev G env key) fun kx=>ob (ev G env x) fun y=>chk (keyIs p.1 kx=true) (some (.undef,H.set id (.map p.1 (setSV es kx y))))
  |_=>none)
 | .insert t m key x=>ob (mapTypes T t) fun p=>ob (ev G env m) fun v=>(match v with
  | .map id=>ob (mapOf H p.1 v) fun es=>ob (ev G env key) fun kx=>ob (ev G env x) fun y=>chk (keyIs p.1 kx=true) (some (.undef,H.set id (.map p.1 (setSV es kx y))))
  |_=>none)
 | .call ⟨.builtin .append,⟨[s,x]⟩,⟨[t,tx]⟩⟩=>ob (elemOf T t) fun e=>ob (T.get tx) fun ix=>ob (ev G env s) fun s=>ob (ev G env x) fun x=>
  match ix.d with
  | .slice _=>ob (seqOf H x) fun ys=>chk (szOK H e.2.size x=true) (appV H e.2 s ys)
  | .str=>(match x with
   | .str bs=>chk (e.2.size=1) (appV H e.2 s (strBytes bs))
   |_=>none)
  |_=>none
 |_=>none
section
variable {P:Program} {G:Gl} {T:Tab} {own:List Nat} {nt B:Nat} {ρ:Option Nat} {C:Cx} {env:Env} {H:List Blk}
theorem bb_eq {α:Type} {b:Bool} {x y:Option α} {r:α} (h:bb b x y=some r):(b=true∧x=some r)∨(b=false∧y=some r):=by
 cases b
 ·exact .inr ⟨rfl,h⟩
 ·exact .inl ⟨rfl,h⟩
theorem lenV_ok {i:TI} {v r:SV} {k:SV→List Blk→Prop} (h:lenV H i v=some r) (hk:k r H):Need (lenFits H i.d v=true) (bindO (lenSV H v) fun n=>match i.d with
 | .map _ _=>Need (n≤9223372036854775807) (k (.int .i64 n) H)
 |_=>k (.int .i64 n) H):=by
 obtain⟨h1,h2⟩:=chk_eq h
 obtain⟨n,h3,h4⟩:=ob_eq h2
 refine⟨h1,n,h3,?_⟩
 split at h4
 ·obtain⟨h5,h6⟩:=chk_eq h4
  cases h6
  exact⟨h5,hk⟩
 ·cases h4
  exact hk
theorem qv_ok {dst:Option Nat} {ty:Nat} {op:Op} {v:SV} {k:SV→List Blk→Prop} (h:qv G T own env H dst ty op=some v) (hk:k v H):exOp P G T own env H dst ty op k:=by
 unfold qv at h
 split at h
 ·exact⟨_,h,hk⟩
 ·rcases bb_eq h with⟨h1,h2⟩|⟨h1,h2⟩
  ·obtain⟨e,h3,h4⟩:=ob_eq h2
   obtain⟨u,h5,h6⟩:=ob_eq h4
   refine And.intro (fun _=>⟨e,h3,u,h5,?_⟩) (fun h=>by rw[h1] at h;cases h)
   cases u<;>first
    |(cases h6;done)
    |(cases h6;exact hk)
  ·exact And.intro (fun h=>by rw[h1] at h;cases h) (fun _=>⟨v,h2,hk⟩)
 ·obtain⟨u,h1,h2⟩:=ob_eq h
  obtain⟨g,h3,h4⟩:=ob_eq h2
  obtain⟨X,h5,h6⟩:=ob_eq h4
  obtain⟨Y,h7,h8⟩:=ob_eq h6
  cases h8
  refine⟨u,h1,g,h3,And.intro (fun hg=>?_) (fun hg=>?_)⟩
  ·rw[hg] at hk;exact⟨_,h5,hk⟩
  ·rw[hg] at hk;exact⟨_,h7,hk⟩
 ·obtain⟨i,h1,h2⟩:=ob_eq h
  obtain⟨h3,h4⟩:=chk_eq h2
  obtain⟨ps,h5,h6⟩:=ob_eq h4
  exact⟨i,h1,h3,ps,h5,v,h6,hk⟩
 ·obtain⟨i,h1,h2⟩:=ob_eq h
  obtain⟨⟨h3,h3'⟩,h4⟩:=chk_eq h2
  obtain⟨ps,h5,h6⟩:=ob_eq h4
  cases h6
  refine⟨i,h1,h3,ps,h5,?_⟩
  exact And.intro (fun hh=>by rw[h3'] at hh;cases hh) (fun _=>hk)
 ·obtain⟨i,h1,h2⟩:=ob_eq h
  obtain⟨p,h3,h4⟩:=ob_eq h2
  exact⟨i,h1,p,h3,v,h4,hk⟩
 ·obtain⟨u,h1,h2⟩:=ob_eq h
  obtain⟨h3,h4⟩:=chk_eq h2
  cases h4
  exact⟨_,h1,h3,hk⟩
 ·obtain⟨a,h1,h2⟩:=ob_eq h
  obtain⟨b,h3,h4⟩:=ob_eq h2
  rcases bb_eq h4 with⟨hn,h5⟩|⟨hn,h5⟩
  ·exact⟨a,h1,b,h3,And.intro (fun _=>ifcV_ok h5 hk) (fun hh=>by rw[hn] at hh;cases hh)⟩
  ·exact⟨a,h1,b,h3,And.intro (fun hh=>by rw[hn] at hh;cases hh) (fun _=>binV_ok h5 hk)⟩
 ·obtain⟨a,h1,h2⟩:=ob_eq h
  refine⟨a,h1,?_⟩
  unfold unV at h2
  split at h2
  ·cases h2;exact hk
  ·cases h2;exact hk
  ·cases h2
 ·obtain⟨i,h1,h2⟩:=ob_eq h
  obtain⟨j,h3,h4⟩:=ob_eq h2
  obtain⟨u,h5,h6⟩:=ob_eq h4
  refine⟨i,h1,j,h3,u,h5,?_⟩
  obtain⟨d,a1,a2,a3⟩:=j
  cases d<;>cases u<;>first
   |(cases h6;done)
   |(cases h6;exact hk)
   |(obtain⟨g1,g2⟩:=chk_eq h6;obtain⟨xs,g3,g4⟩:=ob_eq g2;obtain⟨s,g5,g6⟩:=ob_eq g4;cases g6;exact⟨g1,xs,g3,s,g5,hk⟩)
 ·obtain⟨xs,h1,h2⟩:=ob_eq h
  obtain⟨ys,h3,h4⟩:=ob_eq h2
  cases h4
  exact⟨xs,h1,ys,h3,hk⟩
 ·obtain⟨i,h1,h2⟩:=ob_eq h
  obtain⟨u,h3,h4⟩:=ob_eq h2
  obtain⟨n,h5,h6⟩:=ob_eq h4
  obtain⟨l,h7,h8⟩:=ob_eq h6
  obtain⟨hh,h9,h10⟩:=ob_eq h8
  obtain⟨h11,h12⟩:=chk_eq h10
  obtain⟨y,h13,h14⟩:=ob_eq h12
  refine⟨i,h1,u,h3,n,h5,l,h7,hh,h9,h11,y,h13,?_⟩
  obtain⟨d,a1,a2,a3⟩:=i
  cases d<;>simp only at h14 ⊢ <;>try (cases h14;done)
  ·cases u<;>first
    |(cases h14;done)
    |(cases h14;exact hk)
  ·obtain⟨e,g1,g2⟩:=ob_eq h14
   obtain⟨g3,g4⟩:=chk_eq g2
   cases g4
   exact⟨e,g1,g3.1,g3.2,hk⟩
 ·obtain⟨p,h1,h2⟩:=ob_eq h
  obtain⟨u,h3,h4⟩:=ob_eq h2
  obtain⟨h5,h6⟩:=chk_eq h4
  exact⟨p,h1,u,h3,h5,v,h6,hk⟩
 ·obtain⟨p,h1,h2⟩:=ob_eq h
  obtain⟨u,h3,h4⟩:=ob_eq h2
  obtain⟨h5,h6⟩:=chk_eq h4
  exact⟨p,h1,u,h3,h5,v,h6,hk⟩
 ·obtain⟨s,h3,h4⟩:=ob_eq h
  obtain⟨iv,h5,h6⟩:=ob_eq h4
  obtain⟨n,h7,h8⟩:=ob_eq h6
  refine⟨s,h3,iv,h5,n,h7,?_⟩
  rcases bb_eq h8 with⟨hp,h8⟩|⟨hp,h8⟩
  ·obtain⟨p,g1,g2⟩:=ob_eq h8
   obtain⟨g3,g4⟩:=chk_eq g2
   exact And.intro (fun _=>⟨p,g1,g3,v,g4,hk⟩) (fun h=>by rw[hp] at h;cases h)
  refine And.intro (fun h=>by rw[hp] at h;cases h) (fun _=>?_)
  obtain⟨e,h1,h8⟩:=ob_eq h8
  obtain⟨xs,h9,h10⟩:=ob_eq h8
  obtain⟨h11,h12⟩:=chk_eq h10
  obtain⟨y,h13,h14⟩:=ob_eq h12
  refine⟨e,h1,xs,h9,h11,y,h13,?_⟩
  split at h14
  ·obtain⟨g1,g2⟩:=chk_eq h14
   cases g2
   exact⟨g1,hk⟩
  ·obtain⟨b,g1,g2⟩:=ob_eq h14
   obtain⟨g3,g4⟩:=chk_eq g2
   cases g4
   exact⟨b,g1,g3,hk⟩
  ·cases h14
 ·obtain⟨e,h1,h2⟩:=ob_eq h
  obtain⟨s,h3,h4⟩:=ob_eq h2
  obtain⟨iv,h5,h6⟩:=ob_eq h4
  obtain⟨n,h7,h8⟩:=ob_eq h6
  refine⟨e,h1,s,h3,iv,h5,n,h7,?_⟩
  obtain⟨d,a1,a2,a3⟩:=e
  cases d<;>cases s<;>try (cases h8;done)
  ·obtain⟨g1,g2⟩:=chk_eq h8
   obtain⟨b,g3,g4⟩:=ob_eq g2
   cases g4
   exact⟨g1,b,g3,hk⟩
  ·obtain⟨g1,g2⟩:=chk_eq h8
   obtain⟨b,g3,g4⟩:=ob_eq g2
   exact⟨g1,b,g3,v,g4,hk⟩
 ·obtain⟨p,h1,h2⟩:=ob_eq h
  obtain⟨m,h3,h4⟩:=ob_eq h2
  obtain⟨es,h5,h6⟩:=ob_eq h4
  obtain⟨kx,h7,h8⟩:=ob_eq h6
  obtain⟨g1,g2⟩:=chk_eq h8
  cases g2
  exact⟨p,h1,m,h3,es,h5,kx,h7,g1,hk⟩
 ·obtain⟨u,h1,h2⟩:=ob_eq h
  refine⟨u,h1,?_⟩
  split at h2
  ·exact⟨v,h2,hk⟩
  ·cases h2
 ·obtain⟨i,h1,h2⟩:=ob_eq h
  obtain⟨u,h3,h4⟩:=ob_eq h2
  exact⟨i,h1,u,h3,lenV_ok h4 hk⟩
 ·obtain⟨a,h1,h2⟩:=ob_eq h
  obtain⟨b,h3,h4⟩:=ob_eq h2
  refine⟨a,h1,b,h3,?_⟩
  split at h4
  ·obtain⟨g1,g2⟩:=chk_eq h4
   cases g2
   exact⟨g1,hk⟩
  ·cases h4
 ·obtain⟨a,h1,h2⟩:=ob_eq h
  obtain⟨b,h3,h4⟩:=ob_eq h2
  refine⟨a,h1,b,h3,?_⟩
  split at h4
  ·obtain⟨g1,g2⟩:=chk_eq h4
   cases g2
   exact⟨g1,hk⟩
  ·cases h4
 ·cases h
theorem appV_ok {e:TI} {s:SV} {ys:List SV} {v:SV} {H':List Blk} {k:SV→List Blk→Prop} (h:appV H e s ys=some (v,H')) (hk:k v H'):appendSV H e s ys k:=by
 unfold appV at h
 split at h
 ·obtain⟨h1,h2⟩:=chk_eq h
  cases h2
  exact⟨h1.1,h1.2,hk⟩
 ·obtain⟨b,h1,h2⟩:=ob_eq h
  obtain⟨h3,h4⟩:=chk_eq h2
  cases h4
  exact⟨b,h1,h3.1,h3.2.2,.inl ⟨h3.2.1,hk⟩⟩
 ·cases h
theorem lv_ok {dst:Option Nat} {ty:Nat} {op:Op} {v:SV} {H':List Blk} {k:SV→List Blk→Prop} (h:lv G T own env H dst ty op=some (v,H')) (hk:k v H'):exOp P G T own env H dst ty op k:=by
 unfold lv at h
 split at h
 ·rcases bb_eq h with⟨h1,h2⟩|⟨h1,h2⟩
  ·obtain⟨e,h3,h4⟩:=ob_eq h2
   obtain⟨u,h5,h6⟩:=ob_eq h4
   refine And.intro (fun _=>⟨e,h3,u,h5,?_⟩) (fun h=>by rw[h1] at h;cases h)
   cases u<;>first
    |(cases h6;done)
    |(cases h6;exact hk)
  ·cases h2
 ·obtain⟨i,h1,h2⟩:=ob_eq h
  cases h2
  exact⟨i,h1,hk⟩
 ·obtain⟨i,h1,h2⟩:=ob_eq h
  obtain⟨u,h3,h4⟩:=ob_eq h2
  obtain⟨h5,h6⟩:=chk_eq h4
  cases h6
  exact⟨i,h1,u,h3,h5,hk⟩
 ·obtain⟨i,h1,h2⟩:=ob_eq h
  obtain⟨⟨h3,h3'⟩,h4⟩:=chk_eq h2
  obtain⟨ps,h5,h6⟩:=ob_eq h4
  cases h6
  refine⟨i,h1,h3,ps,h5,?_⟩
  exact And.intro (fun _=>hk) (fun hh=>by rw[h3'] at hh;cases hh)
 ·obtain⟨i,h1,h2⟩:=ob_eq h
  obtain⟨p,h3,h4⟩:=ob_eq h2
  obtain⟨u,h5,h6⟩:=ob_eq h4
  obtain⟨H2,h7,h8⟩:=ob_eq h6
  cases h8
  exact⟨i,h1,p,h3,u,h5,_,h7,hk⟩
 ·obtain⟨i,h1,h2⟩:=ob_eq h
  cases h2
  exact⟨i,h1,hk⟩
 ·obtain⟨i,h1,h2⟩:=ob_eq h
  obtain⟨j,h3,h4⟩:=ob_eq h2
  obtain⟨u,h5,h6⟩:=ob_eq h4
  refine⟨i,h1,j,h3,u,h5,?_⟩
  obtain⟨d,a1,a2,a3⟩:=j
  cases d<;>cases u<;>first
   |(cases h6;done)
   |(obtain⟨g1,g2⟩:=chk_eq h6;cases g2;exact⟨g1,hk⟩)
   |(obtain⟨g1,g2⟩:=chk_eq h6;obtain⟨b,g3,g4⟩:=ob_eq g2;obtain⟨g5,g6⟩:=chk_eq g4;cases g6;exact⟨g1,b,g3,g5,hk⟩)
   |(obtain⟨g1,g2⟩:=chk_eq h6;obtain⟨xs,g3,g4⟩:=ob_eq g2;obtain⟨s,g5,g6⟩:=ob_eq g4;cases g6;exact⟨g1,xs,g3,s,g5,hk⟩)
 ·obtain⟨e,h1,h⟩:=ob_eq h
  obtain⟨xv,h2,h⟩:=ob_eq h
  obtain⟨n,h3,h⟩:=ob_eq h
  obtain⟨yv,h4,h⟩:=ob_eq h
  obtain⟨m,h5,h⟩:=ob_eq h
  obtain⟨h6,h⟩:=chk_eq h
  obtain⟨h7,h⟩:=chk_eq h
  cases h
  exact⟨e,h1,xv,h2,n,h3,yv,h4,m,h5,h6,h7,hk⟩
 ·obtain⟨e,h1,h⟩:=ob_eq h
  obtain⟨xv,h2,h⟩:=ob_eq h
  obtain⟨n,h3,h⟩:=ob_eq h
  obtain⟨l,h4,h⟩:=ob_eq h
  obtain⟨hh,h5,h⟩:=ob_eq h
  obtain⟨m,h6,h⟩:=ob_eq h
  obtain⟨h7,h⟩:=chk_eq h
  obtain⟨h8,h⟩:=chk_eq h
  cases h
  exact⟨e,h1,xv,h2,n,h3,l,h4,hh,h5,m,h6,h7,h8,hk⟩
 ·obtain⟨e,h1,h⟩:=ob_eq h
  obtain⟨e',h2,h⟩:=ob_eq h
  obtain⟨d,h3,h⟩:=ob_eq h
  obtain⟨s,h4,h⟩:=ob_eq h
  obtain⟨ys,h5,h⟩:=ob_eq h
  obtain⟨h6,h⟩:=chk_eq h
  refine⟨e,h1,e',h2,d,h3,s,h4,ys,h5,h6,?_⟩
  unfold copyV at h
  cases d<;>try (cases h;done)
  obtain⟨b,h7,h⟩:=ob_eq h
  obtain⟨h8,h⟩:=chk_eq h
  cases h
  exact⟨b,h7,h8,hk⟩
 ·obtain⟨e,h1,h⟩:=ob_eq h
  obtain⟨xv,h2,h⟩:=ob_eq h
  refine⟨e,h1,xv,h2,?_⟩
  unfold clearV at h
  cases xv<;>try (cases h;done)
  ·cases h;exact hk
  ·obtain⟨b,h7,h⟩:=ob_eq h
   obtain⟨h8,h⟩:=chk_eq h
   cases h
   exact⟨b,h7,h8,hk⟩
 ·obtain⟨p,h1,h2⟩:=ob_eq h
  obtain⟨u,h3,h4⟩:=ob_eq h2
  refine⟨p,h1,u,h3,?_⟩
  cases u<;>try (cases h4;done)
  obtain⟨es,h5,h6⟩:=ob_eq h4
  obtain⟨kx,h7,h8⟩:=ob_eq h6
  obtain⟨y,h9,h10⟩:=ob_eq h8
  obtain⟨g1,g2⟩:=chk_eq h10
  cases g2
  exact⟨es,h5,kx,h7,y,h9,g1,hk⟩
 ·obtain⟨p,h1,h2⟩:=ob_eq h
  obtain⟨u,h3,h4⟩:=ob_eq h2
  refine⟨p,h1,u,h3,?_⟩
  cases u<;>try (cases h4;done)
  obtain⟨es,h5,h6⟩:=ob_eq h4
  obtain⟨kx,h7,h8⟩:=ob_eq h6
  obtain⟨y,h9,h10⟩:=ob_eq h8
  obtain⟨g1,g2⟩:=chk_eq h10
  cases g2
  exact⟨es,h5,kx,h7,y,h9,g1,hk⟩
 ·obtain⟨e,h1,h2⟩:=ob_eq h
  obtain⟨ix,h3,h4⟩:=ob_eq h2
  obtain⟨s,h5,h6⟩:=ob_eq h4
  obtain⟨x,h7,h8⟩:=ob_eq h6
  refine⟨e,h1,ix,h3,s,h5,x,h7,?_⟩
  obtain⟨d,a1,a2,a3⟩:=ix
  cases d<;>simp only at h8 ⊢ <;>try (cases h8;done)
  ·cases x<;>simp only at h8 ⊢ <;>try (cases h8;done)
   obtain⟨g1,g2⟩:=chk_eq h8
   exact⟨g1,appV_ok g2 hk⟩
  ·obtain⟨ys,g1,g2⟩:=ob_eq h8
   obtain⟨g3,g4⟩:=chk_eq g2
   exact⟨ys,g1,g3,appV_ok g4 hk⟩
 ·cases h
end
end
section
section
variable {P:Program} {G:Gl} {T:Tab} {own:List Nat} {nt B:Nat} {ρ:Option Nat} {C:Cx} {env env2:Env} {H:List Blk}
theorem evs_congr:∀ {l:List Operand},(∀ x∈l,ev G env x=ev G env2 x)→evs G env l=evs G env2 l
 |[],_=>rfl
 |x::r,h=>by
  simp only[evs]
  rw[h x (by simp),evs_congr (l:=r) (fun y hy=>h y (by simp[hy]))]
theorem partsOf_congr {d:TD}:∀ {l:List (Nat×Operand)},(∀ x∈l.map (·.2),ev G env x=ev G env2 x)→partsOf T d G env l=partsOf T d G env2 l
 |[],_=>rfl
 |(j,x)::r,h=>by
  simp only[partsOf]
  rw[h x (by simp),partsOf_congr (l:=r) (fun y hy=>h y (by simp only[List.map_cons,List.mem_cons];exact .inr hy))]
theorem fillAll_congr {i:TI}:∀ {l:List (Nat×Operand)} {xs:List SV},(∀ x∈l.map (·.2),ev G env x=ev G env2 x)→fillAll i G env xs l=fillAll i G env2 xs l
 |[],_,_=>rfl
 |(j,x)::r,xs,h=>by
  simp only[fillAll]
  rw[h x (by simp)]
  cases ev G env2 x with
  |none=>rfl
  |some v=>
   simp only
   split
   ·exact fillAll_congr (fun y hy=>h y (by simp only[List.map_cons,List.mem_cons];exact .inr hy))
   ·rfl
theorem boundOf_congr {o:Option Operand} {d:Int} (h:∀ x∈o,ev G env x=ev G env2 x):boundOf G env o d=boundOf G env2 o d:=by
 cases o with
 |none=>rfl
 |some x=>simp only[boundOf];rw[h x rfl]
theorem exBuiltin_congrO {b:Builtin} {args:List Operand} {tys:List Nat} {k:SV→List Blk→Prop} (h:∀ x∈args,ev G env x=ev G env2 x):exBuiltin T G env H b args tys k=exBuiltin T G env2 H b args tys k:=by
 unfold exBuiltin
 split
 all_goals first
  |rfl
  |(simp only[List.mem_cons,List.not_mem_nil,or_false,forall_eq_or_imp,forall_eq] at h;simp only[h])
def opds:Op→List Operand
 | .move x| .assign x| .box _ x| .load _ x| .nilCheck x| .unOp _ _ x| .convert _ _ x| .fieldAddr _ x _| .field _ x _| .extract x _=>[x]
 | .pick c x y=>[c,x,y]
 | .build _ ps| .buildSlice _ _ ps=>ps.toList.map (·.2)
 | .store _ x y| .binOp _ _ x y _| .indexAddr _ x y| .index _ x y| .lookup _ x y _=>[x,y]
 | .makeFunc _ f c=>f.toList++c.toList
 | .slice _ x l h m=>x::(l.toList++h.toList++m.toList)
 | .mapUpdate _ m k v=>[m,k,v]
 | .insert _ m k v=>[m,k,v]
 | .makeSlice _ x y=>[x,y]
 | .call c=>(match c.callee with
  | .value f=>[f]
  | .invoke r _=>[r]
  | .builtin _=>[])++c.args.toList
 |_=>[]
theorem exOp_congrO {dst:Option Nat} {ty:Nat} {op:Op} {k:SV→List Blk→Prop} (h:∀ x∈opds op,ev G env x=ev G env2 x):exOp P G T own env H dst ty op k=exOp P G T own env2 H dst ty op k:=by
 cases op
 case build t ps=>
  have e1:∀ d,partsOf T d G env ps.toList=partsOf T d G env2 ps.toList:=fun d=>partsOf_congr h
  simp only[exOp,e1]
 case buildSlice t n ps=>
  have e1:∀ (i:TI) xs,fillAll i G env xs ps.toList=fillAll i G env2 xs ps.toList:=fun d xs=>fillAll_congr h
  simp only[exOp,e1]
 case makeFunc f a b=>
  have e1:evs G env a.toList=evs G env2 a.toList:=evs_congr fun x hx=>h x (by simp only[opds,List.mem_append];exact .inl hx)
  have e2:evs G env b.toList=evs G env2 b.toList:=evs_congr fun x hx=>h x (by simp only[opds,List.mem_append];exact .inr hx)
  simp only[exOp,e1,e2]
 case slice t x l hh m=>
  have e0:ev G env x=ev G env2 x:=h x (by simp[opds])
  have e1:∀ d,boundOf G env l d=boundOf G env2 l d:=fun d=>boundOf_congr fun y hy=>h y (by simp[opds];exact .inr (.inl hy))
  have e2:∀ d,boundOf G env hh d=boundOf G env2 hh d:=fun d=>boundOf_congr fun y hy=>h y (by simp[opds];exact .inr (.inr (.inl hy)))
  cases m with
  |none=>simp only[exOp,e0,e1,e2]
  |some mm=>
   have e3:∀ d,boundOf G env (some mm) d=boundOf G env2 (some mm) d:=fun d=>boundOf_congr fun y hy=>h y (by simp[opds];exact .inr (.inr (.inr (by simpa [eq_comm] using hy))))
   cases hh with
   |none=>simp only[exOp]
   |some hv=>simp only[exOp,e0,e1,e2,e3]
 case makeMap t r=>cases r<;>rfl
 case call c=>
  obtain⟨cl,args,tys⟩:=c
  cases cl
  case value f=>
   have e0:ev G env f=ev G env2 f:=h f (by simp[opds])
   have e1:evs G env args.toList=evs G env2 args.toList:=evs_congr fun x hx=>h x (by simp only[opds,List.mem_append];exact .inr hx)
   simp only[exOp,e0,e1]
  case builtin b=>exact exBuiltin_congrO fun x hx=>h x (by simp only[opds,List.mem_append];exact .inr hx)
  case invoke r m=>simp only[exOp]
 all_goals first
  |rfl
  |(simp only[opds,List.mem_cons,List.not_mem_nil,or_false,forall_eq_or_imp,forall_eq] at h;simp only[exOp,h])
  |simp only[exOp]
theorem qv_congrO {dst:Option Nat} {ty:Nat} {op:Op} (h:∀ x∈opds op,ev G env x=ev G env2 x):qv G T own env H dst ty op=qv G T own env2 H dst ty op:=by
 cases op
 case build t ps=>
  have e1:∀ d,partsOf T d G env ps.toList=partsOf T d G env2 ps.toList:=fun d=>partsOf_congr h
  simp only[qv,e1]
 case buildSlice t n ps=>
  have e1:∀ (i:TI) xs,fillAll i G env xs ps.toList=fillAll i G env2 xs ps.toList:=fun d xs=>fillAll_congr h
  simp only[qv,e1]
 case makeFunc f a b=>
  have e1:evs G env a.toList=evs G env2 a.toList:=evs_congr fun x hx=>h x (by simp only[opds,List.mem_append];exact .inl hx)
  have e2:evs G env b.toList=evs G env2 b.toList:=evs_congr fun x hx=>h x (by simp only[opds,List.mem_append];exact .inr hx)
  simp only[qv,e1,e2]
 case slice t x l hh m=>
  have e0:ev G env x=ev G env2 x:=h x (by simp[opds])
  have e1:∀ d,boundOf G env l d=boundOf G env2 l d:=fun d=>boundOf_congr fun y hy=>h y (by simp[opds];exact .inr (.inl hy))
  have e2:∀ d,boundOf G env hh d=boundOf G env2 hh d:=fun d=>boundOf_congr fun y hy=>h y (by simp[opds];exact .inr (.inr (.inl hy)))
  cases m<;>simp only[qv,e0,e1,e2]
 case makeMap t r=>cases r<;>rfl
 case call c=>
  obtain⟨cl,args,tys⟩:=c
  cases cl
  case value f=>
   have e0:ev G env f=ev G env2 f:=h f (by simp[opds])
   have e1:evs G env args.toList=evs G env2 args.toList:=evs_congr fun x hx=>h x (by simp only[opds,List.mem_append];exact .inr hx)
   simp only[qv,e0,e1]
  case builtin b=>
   obtain⟨al⟩:=args
   obtain⟨tl⟩:=tys
   cases b<;>first
    |rfl
    |(rcases al with _|⟨x,_|⟨y,_|⟨z,al⟩⟩⟩<;>rcases tl with _|⟨t1,_|⟨t2,tl⟩⟩<;>first
     |rfl
     |(simp[opds] at h;simp only[qv,h]))
  case invoke r m=>simp only[qv]
 all_goals first
  |rfl
  |(simp only[opds,List.mem_cons,List.not_mem_nil,or_false,forall_eq_or_imp,forall_eq] at h;simp only[qv,h])
  |simp only[qv]
def EqE (env env2:Env):Prop:=∀ t,look env t=look env2 t
theorem EqE.refl (env:Env):EqE env env:=fun _=>rfl
theorem EqE.symm {env env2:Env} (h:EqE env env2):EqE env2 env:=fun t=>(h t).symm
theorem EqE.trans {a b c:Env} (h:EqE a b) (h2:EqE b c):EqE a c:=fun t=>(h t).trans (h2 t)
theorem EqE.cons {a b:Env} (h:EqE a b) (p:Nat×SV):EqE (p::a) (p::b):=fun t=>by
 obtain⟨k,v⟩:=p
 simp only[look,h t]
theorem EqE.shadow {env:Env} {d:Nat} {x:SV} (h:look env d=some x):EqE ((d,x)::env) env:=fun t=>by
 simp only[look]
 split
 ·rename_i e;rw[e,h]
 ·rfl
theorem bindO_mono {α:Type} {x:Option α} {f g:α→Prop} (h:∀ a,f a→g a):bindO x f→bindO x g:=fun⟨a,h1,h2⟩=>⟨a,h1,h a h2⟩
theorem Need_mono {p q r:Prop} (h:q→r):Need p q→Need p r:=fun⟨a,b⟩=>⟨a,h b⟩
theorem Br_mono {b:Bool} {p q p' q':Prop} (h1:p→p') (h2:q→q'):Br b p q→Br b p' q':=fun⟨x,y⟩=>⟨fun h=>h1 (x h),fun h=>h2 (y h)⟩
theorem binSV_mono {H:List Blk} {tb:Nat} {op:BinOp} {x y:SV} {k k':SV→Prop} (hk:∀ v,k v→k' v):binSV H tb op x y k→binSV H tb op x y k':=by
 unfold binSV
 repeat' first
  |exact hk _
  |exact id
  |refine bindO_mono fun _=>?_
  |refine Need_mono ?_
  |exact fun h=>⟨fun e=>hk _ (h.1 e),hk _ h.2⟩
  |split
theorem ifcSV_mono {b:Bool} {op:BinOp} {x:SV} {k k':SV→Prop} (hk:∀ v,k v→k' v):ifcSV b op x k→ifcSV b op x k':=by
 unfold ifcSV
 repeat' first
  |exact hk _
  |exact id
  |refine Need_mono ?_
  |split
theorem unSV_mono {op:UnOp} {x:SV} {k k':SV→Prop} (hk:∀ v,k v→k' v):unSV op x k→unSV op x k':=by
 unfold unSV
 repeat' first
  |exact hk _
  |exact id
  |split
theorem appendSV_mono {e:TI} {s:SV} {ys:List SV} {k k':SV→List Blk→Prop} (hk:∀ x H',k x H'→k' x H'):appendSV H e s ys k→appendSV H e s ys k':=by
 unfold appendSV
 repeat' first
  |exact hk _ _
  |exact fun h=>h.elim (fun h=> .inl ⟨h.1,hk _ _ h.2⟩) (fun h=> .inr ⟨h.1,h.2.1,hk _ _ h.2.2⟩)
  |exact id
  |refine bindO_mono fun _=>?_
  |refine Need_mono ?_
  |split
theorem exBuiltin_mono {b:Builtin} {args:List Operand} {tys:List Nat} {k k':SV→List Blk→Prop} (hk:∀ x H',k x H'→k' x H'):exBuiltin T G env H b args tys k→exBuiltin T G env H b args tys k':=by
 unfold exBuiltin
 repeat' first
  |exact hk _ _
  |exact id
  |refine bindO_mono fun _=>?_
  |refine Need_mono ?_
  |exact appendSV_mono hk
  |split
theorem exOp_mono {dst:Option Nat} {ty:Nat} {op:Op} {k k':SV→List Blk→Prop} (hk:∀ x H',k x H'→k' x H'):exOp P G T own env H dst ty op k→exOp P G T own env H dst ty op k':=by
 unfold exOp
 repeat' first
  |exact hk _ _
  |exact id
  |refine bindO_mono fun _=>?_
  |refine Need_mono ?_
  |refine Br_mono ?_ ?_
  |exact ifcSV_mono fun _=>hk _ _
  |exact binSV_mono fun _=>hk _ _
  |exact unSV_mono fun _=>hk _ _
  |exact exBuiltin_mono hk
  |exact fun h=>ACallV.mono h fun _ _=>hk _ _
  |split
end
end
section
inductive It where
 |code (c:Code)
 |ops (all l:List Oper)
 |pred (K:Env→List Blk→Prop)
 |blk (id:Nat)
def RetG (C:Cx) (T:Tab) (rs:List ResultVar) (R:SV→List Blk→Prop) (env:Env) (H:List Blk):Prop:=
 ∃ xs,resL T env H rs=some xs∧Fin C H (resSV xs) R
def Fits (all:List Oper) (i:Nat) (l:List Oper) (a:Act):Prop:=
 l=all.drop i∨∃ o r,all.drop i=o::r∧l=⟨o.dst,o.op,o.type,o.pos,o.after,none⟩::r∧Region.wanted o (yielded ⟨all⟩ a.tmps)=true
def OW (P:Program) (G:Gl) (T:Tab) (nt:Nat) (ρ:Option Nat) (C:Cx) (all l:List Oper) (K:Exit→St→Prop) (env:Env) (H:List Blk):Prop:=
 TabOK P T→∀ (i:Nat) (c:Cx) (a:Act),Fits all i l a→c.H=H→Inv G nt C.w.heap.size c env a→Grow C c→
  wpOpsIn (FR ρ) 0 P ⟨all⟩ (fun e a' w'=>∃ s' c',K e s'∧c'.H=s'.H∧c'.w=w'∧Inv G nt C.w.heap.size c' s'.env a'∧Grow C c') (List.range' i l.length) a c.w
def Out (P:Program) (G:Gl) (T:Tab) (own:List Nat) (nt:Nat) (ρ:Option Nat) (C:Cx) (rs:List ResultVar) (R:SV→List Blk→Prop):List It→Exit→Env→List Blk→Prop
 |[],.normal,env,H=>RetG C T rs R env H
 |[],.ret,env,H=>RetG C T rs R env H
 |[],_,_,_=>False
 | .code c::k,.normal,env,H=>AWP P G nt ρ C c (fun e s=>Out P G T own nt ρ C rs R k e s.env s.H) ⟨env,H⟩
 | .ops all l::k,.normal,env,H=>OW P G T nt ρ C all l (fun e s=>Out P G T own nt ρ C rs R k e s.env s.H) env H
 | .pred K::k,.normal,env,H=>∃ env',EqE env' env∧K env' H
 | .blk _::k,.normal,env,H=>Out P G T own nt ρ C rs R k .normal env H
 | .blk id::k,.exit id',env,H=>if id'=id then Out P G T own nt ρ C rs R k .normal env H else Out P G T own nt ρ C rs R k (.exit id') env H
 |_::k,e,env,H=>Out P G T own nt ρ C rs R k e env H
def unw (id:Nat):List It→Option (List It)
 |[]=>none
 | .blk id'::k=>bif Nat.beq id id' then some k else unw id k
 |_::k=>unw id k
section
variable {P:Program} {G:Gl} {T:Tab} {own:List Nat} {nt B:Nat} {ρ:Option Nat} {C:Cx} {rs:List ResultVar} {R:SV→List Blk→Prop} {env env2:Env} {H H':List Blk} {k:List It}
theorem resL_look (h:EqE env env2):∀ {l:List ResultVar},resL T env H l=resL T env2 H l
 |[]=>rfl
 | .tmp t::r=>by simp only[resL,h t,resL_look h (l:=r)]
 | .cell t ty::r=>by simp only[resL,h t,resL_look h (l:=r)]
def Same (o' o:Oper):Prop:=o'.dst=o.dst∧o'.op=o.op∧o'.type=o.type
theorem OW.nil {all:List Oper} {K:Exit→St→Prop} (h:K .normal ⟨env,H⟩):OW P G T nt ρ C all [] K env H:=fun hT i c a hi hc hinv hg=>⟨⟨env,H⟩,c,h,hc,rfl,hinv,hg⟩
theorem OW.step {all r:List Oper} {o:Oper} {K:Exit→St→Prop} (h:TabOK P T→∀ (c:Cx) (a:Act) (o':Oper),Same o' o→(o'=o∨(o.guard=none∧Region.wanted o' (yielded ⟨all⟩ a.tmps)=true))→c.H=H→Inv G nt C.w.heap.size c env a→Grow C c→∀ next:Act→World→Prop,
 (∀ env' c' a',Inv G nt C.w.heap.size c' env' a'→Grow c c'→OW P G T nt ρ C all r K env' c'.H→next a' c'.w)→
 if Region.wanted o' (yielded ⟨all⟩ a.tmps) then o'.wpIn (FR ρ) 0 P a c.w next (fun e a' w'=>∃ s' c',K e s'∧c'.H=s'.H∧c'.w=w'∧Inv G nt C.w.heap.size c' s'.env a'∧Grow C c') else (∀ f,o'.about P c.w a.eval=some f→(FR ρ).fn f)∧next (a.put o'.dst undef) c.w):
 OW P G T nt ρ C all (o::r) K env H:=by
 intro hT i c a hi hc hinv hg
 have key:∃ o',all.drop i=o'::r∧Same o' o∧(o'=o∨(o.guard=none∧Region.wanted o' (yielded ⟨all⟩ a.tmps)=true)):=by
  rcases hi with hi|⟨o',r',h1,h2,h3⟩
  ·exact⟨o,hi.symm,⟨rfl,rfl,rfl⟩,.inl rfl⟩
  ·cases h2;exact⟨o',h1,⟨rfl,rfl,rfl⟩,.inr ⟨rfl,h3⟩⟩
 obtain⟨o',hd,hs,ho⟩:=key
 have h1:(⟨all⟩:Array Oper)[i]? =some o':=by
  have:=congrArg (fun l=>l[0]?) hd
  simpa using this
 have h2:r=all.drop (i+1):=by
  have:=congrArg List.tail hd
  simpa using this.symm
 simp only[List.length_cons,List.range'_succ,wpOpsIn,h1]
 exact h hT c a o' hs ho hc hinv hg _ fun env' c' a' k1 k2 k3=>k3 hT (i+1) c' a' (.inl h2) rfl k1 (hg.trans k2)
theorem OW.run {all r:List Oper} {o:Oper} {K:Exit→St→Prop} (hw:∀ (c:Cx) (a:Act),c.H=H→Inv G nt C.w.heap.size c env a→Region.wanted o (yielded ⟨all⟩ a.tmps)=true)
 (h:exOp P G T own env H o.dst o.type o.op fun x H'=>putK nt o.dst x env fun env'=>OW P G T nt ρ C all r K env' H'):OW P G T nt ρ C all (o::r) K env H:=
 OW.step fun hT c a o' hs ho hc hinv hg next hn=>by
  subst hc
  have hwant:Region.wanted o' (yielded ⟨all⟩ a.tmps)=true:=by
   rcases ho with rfl|ho
   ·exact hw c a rfl hinv
   ·exact ho.2
  rw[if_pos hwant]
  obtain⟨s1,s2,s3⟩:=hs
  rw[← s1,← s2,← s3] at h
  refine exOp_wp hT hinv h fun x c' u e1 e2 e3 e4=>?_
  cases hd:o'.dst with
  |none=>
   rw[hd] at e1
   exact hn env c' _ (hinv.put_none e4 e2) e4 e1
  |some d=>
   rw[hd] at e1
   exact hn _ c' _ (hinv.put e4 e2 e3 e1.1) e4 e1.2
theorem OW.cons {all r:List Oper} {o:Oper} {K:Exit→St→Prop} (hg:o.guard=none) (h:exOp P G T own env H o.dst o.type o.op fun x H'=>putK nt o.dst x env fun env'=>OW P G T nt ρ C all r K env' H'):OW P G T nt ρ C all (o::r) K env H:=
 OW.run (fun c a _ _=>by simp only[Region.wanted,hg]) h
theorem OW.gRun {all r:List Oper} {o:Oper} {K:Exit→St→Prop} {j dj:Nat} {want:Bool} (hg:o.guard=some (j,want)) (h1:(all[j]?).bind (·.dst)=some dj) (h2:look env dj=some (.bool want)) (h:OW P G T nt ρ C all (⟨o.dst,o.op,o.type,o.pos,o.after,none⟩::r) K env H):OW P G T nt ρ C all (o::r) K env H:=by
 intro hT i c a hi hc hinv hgr
 refine h hT i c a (.inr ⟨o,r,?_,rfl,?_⟩) hc hinv hgr
 ·rcases hi with hi|⟨o',r',e1,e2,e3⟩
  ·exact hi.symm
  ·cases e2;cases hg
 ·simp only[Region.wanted,hg,yielded_ok hinv (ops:=⟨all⟩) h1 h2 rfl,beq_self_eq_true]
theorem OW.gSkip {all r:List Oper} {o:Oper} {K:Exit→St→Prop} {j dj:Nat} {want:Bool} {v:SV} {g:Option Bool} (hg:o.guard=some (j,want)) (h1:(all[j]?).bind (·.dst)=some dj) (h2:look env dj=some v) (h3:asG v=some g) (hgw:(g==some want)=false)
 (hs:putK nt o.dst .undef env fun env'=>OW P G T nt ρ C all r K env' H):OW P G T nt ρ C all (o::r) K env H:=by
 refine OW.step fun hT c a o' hs' ho hc hinv hgr next hn=>?_
 have ho':o'=o:=by
  rcases ho with ho|ho
  ·exact ho
  ·rw[hg] at ho;cases ho.1
 subst ho'
 subst hc
 rw[if_neg (by simp only[Region.wanted,hg,yielded_ok hinv (ops:=⟨all⟩) h1 h2 h3,hgw];simp)]
 refine⟨fun _ _=>trivial,?_⟩
 cases hd:o'.dst with
 |none=>rw[hd] at hs;exact hn env c _ (hinv.put_none (Grow.refl c) hinv.heap) (Grow.refl c) hs
 |some d=>rw[hd] at hs;exact hn _ c _ (hinv.put (Grow.refl c) hinv.heap Rep.undef hs.1) (Grow.refl c) hs.2
theorem OW.law {all r:List Oper} {o:Oper} {K:Exit→St→Prop} {R0:SV→List Blk→Prop} {d:Nat} (hg:o.guard=none) (hd:o.dst=some d) (hdn:Nat.blt d nt=true)
 (h:TabOK P T→∀ (c:Cx) (a:Act) (o':Oper),Same o' o→c.H=H→Inv G nt C.w.heap.size c env a→Grow C c→∀ (next:Act→World→Prop) (Q:Exit→Act→World→Prop),(∀ x c' u,R0 x c'.H→HeapOK c'→Rep c' x u→Grow c c'→next (a.put (some d) u) c'.w)→o'.wpIn (FR ρ) 0 P a c.w next Q)
 (hk:∀ x H',R0 x H'→OW P G T nt ρ C all r K ((d,x)::env) H'):OW P G T nt ρ C all (o::r) K env H:=
 OW.step fun hT c a o' hs ho hc hinv hgr next hn=>by
  have hwant:Region.wanted o' (yielded ⟨all⟩ a.tmps)=true:=by
   rcases ho with rfl|ho
   ·simp only[Region.wanted,hg]
   ·exact ho.2
  rw[if_pos hwant]
  have hdn':d<nt:=by have:=Nat.blt_eq ▸ hdn;exact this
  exact h hT c a o' hs hc hinv hgr next _ fun x c' u e1 e2 e3 e4=>hn _ c' _ (hinv.put e4 e2 e3 hdn') e4 (hk x c'.H e1)
theorem OW.eqE {all l:List Oper} {K:Exit→St→Prop} (he:EqE env env2) (h:OW P G T nt ρ C all l K env H):OW P G T nt ρ C all l K env2 H:=fun hT i c a hi hc hinv hg=>
 h hT i c a hi hc ⟨hinv.heap,hinv.glob,hinv.size,fun t x hx=>hinv.env t x (by rw[← he t];exact hx),hinv.defs⟩ hg
theorem Out.eqE:∀ {k:List It} {e:Exit} {env env2:Env} {H:List Blk},EqE env env2→(Out P G T own nt ρ C rs R) k e env H→(Out P G T own nt ρ C rs R) k e env2 H
 |[],e,env,env2,H,he,h=>by
  have hr:RetG C T rs R env H→RetG C T rs R env2 H:=fun⟨xs,h1,h2⟩=>⟨xs,by rw[← resL_look he];exact h1,h2⟩
  cases e with
  |normal=>exact hr h
  |ret=>exact hr h
  |_=>exact h
 | .code c::k,e,env,env2,H,he,h=>by
  cases e with
  |normal=>exact AWP.wk (Wk.env (fun t x hx=>by rw[← he t];exact hx)) h
  |_=>exact Out.eqE (k:=k) he h
 | .ops all l::k,e,env,env2,H,he,h=>by
  cases e with
  |normal=>exact OW.eqE he h
  |_=>exact Out.eqE (k:=k) he h
 | .pred K::k,e,env,env2,H,he,h=>by
  cases e with
  |normal=>obtain⟨env',h1,h2⟩:=h;exact⟨env',h1.trans he,h2⟩
  |_=>exact Out.eqE (k:=k) he h
 | .blk id::k,e,env,env2,H,he,h=>by
  cases e with
  |normal=>exact Out.eqE (k:=k) he h
  |exit id'=>
   simp only[Out] at h ⊢
   split
   ·rename_i hh;rw[if_pos hh] at h;exact Out.eqE he h
   ·rename_i hh;rw[if_neg hh] at h;exact Out.eqE he h
  |_=>exact Out.eqE (k:=k) he h
theorem go_seq {x y:Code} (h:(Out P G T own nt ρ C rs R) (.code x:: .code y::k) .normal env H):(Out P G T own nt ρ C rs R) (.code (.seq x y)::k) .normal env H:=by
 refine AWP.seq (AWP.mono h ?_)
 rintro e ⟨env',H'⟩ h'
 cases e with
 |normal=>exact h'
 |_=>exact h'
theorem go_skip (h:(Out P G T own nt ρ C rs R) k .normal env H):(Out P G T own nt ρ C rs R) (.code .skip::k) .normal env H:=AWP.skip h
theorem go_label {l:Nat} (h:(Out P G T own nt ρ C rs R) k .normal env H):(Out P G T own nt ρ C rs R) (.code (.label l)::k) .normal env H:=fun c a hc hi hg=>wpIn_label ⟨⟨env,H⟩,c,h,hc,rfl,hi,hg⟩
theorem Out.rets (h:RetG C T rs R env H):∀ {k:List It},(Out P G T own nt ρ C rs R) k .ret env H
 |[]=>h
 | .code _::k=>Out.rets (k:=k) h
 | .ops _ _::k=>Out.rets (k:=k) h
 | .pred _::k=>Out.rets (k:=k) h
 | .blk _::k=>Out.rets (k:=k) h
theorem go_ret {xs:List SV} (h1:resL T env H rs=some xs) (h:Fin C H (resSV xs) R):(Out P G T own nt ρ C rs R) (.code .ret::k) .normal env H:=AWP.ret (Out.rets ⟨xs,h1,h⟩)
theorem go_end {xs:List SV} (h1:resL T env H rs=some xs) (h:Fin C H (resSV xs) R):(Out P G T own nt ρ C rs R) [] .normal env H:=⟨xs,h1,h⟩
theorem Out.exits {id:Nat}:∀ {k k':List It},unw id k=some k'→(Out P G T own nt ρ C rs R) k' .normal env H→(Out P G T own nt ρ C rs R) k (.exit id) env H
 |[],k',hu,h=>by cases hu
 | .blk id'::k,k',hu,h=>by
  simp only[unw] at hu
  simp only[Out]
  by_cases hid:id=id'
  ·rw[if_pos hid]
   subst hid
   rw[show Nat.beq id id=true from Nat.beq_refl id] at hu
   cases hu;exact h
  ·rw[if_neg hid]
   have:Nat.beq id id'=false:=by
    cases hb:Nat.beq id id' with
    |false=>rfl
    |true=>exact(hid (Nat.eq_of_beq_eq_true hb)).elim
   rw[this] at hu
   exact Out.exits hu h
 | .code _::k,k',hu,h=>Out.exits (k:=k) hu h
 | .ops _ _::k,k',hu,h=>Out.exits (k:=k) hu h
 | .pred _::k,k',hu,h=>Out.exits (k:=k) hu h
theorem go_exit {id:Nat} {k':List It} (hu:unw id k=some k') (h:(Out P G T own nt ρ C rs R) k' .normal env H):(Out P G T own nt ρ C rs R) (.code (.exit id)::k) .normal env H:=AWP.exit (Out.exits hu h)
theorem go_blk {id:Nat} (h:(Out P G T own nt ρ C rs R) k .normal env H):(Out P G T own nt ρ C rs R) (.blk id::k) .normal env H:=h
theorem go_block {id:Nat} {x:Code} (h:(Out P G T own nt ρ C rs R) (.code x:: .blk id::k) .normal env H):(Out P G T own nt ρ C rs R) (.code (.block id x)::k) .normal env H:=by
 refine AWP.block (AWP.mono h ?_)
 rintro e ⟨env',H'⟩ h'
 cases e with
 |exit id'=>exact h'
 |_=>exact h'
theorem go_pred {K:Env→List Blk→Prop} (h:K env H):(Out P G T own nt ρ C rs R) (.pred K::k) .normal env H:=⟨env,EqE.refl _,h⟩
theorem go_region (hT:TabOK P T) {id:Nat} {ops:Array Oper} {l:List Oper} (hl:ops=⟨l⟩) (h:(Out P G T own nt ρ C rs R) (.ops l l::k) .normal env H):(Out P G T own nt ρ C rs R) (.code (.region id ops false)::k) .normal env H:=by
 subst hl
 intro c a hc hi hg
 refine wpIn_region ?_
 rw[List.range_eq_range']
 exact h hT 0 c a (.inl rfl) hc hi hg
theorem go_nil {all:List Oper} (h:(Out P G T own nt ρ C rs R) k .normal env H):(Out P G T own nt ρ C rs R) (.ops all []::k) .normal env H:=OW.nil h
theorem go_condT {t:Nat} {p q:Code} (h1:look env t=some (.bool true)) (h:(Out P G T own nt ρ C rs R) (.code p::k) .normal env H):(Out P G T own nt ρ C rs R) (.code (.cond (.tmp t) p q)::k) .normal env H:=
 AWP.cond ⟨_,h1,true,rfl,And.intro (fun _=>h) (fun e=>by cases e)⟩
theorem go_condF {t:Nat} {p q:Code} (h1:look env t=some (.bool false)) (h:(Out P G T own nt ρ C rs R) (.code q::k) .normal env H):(Out P G T own nt ρ C rs R) (.code (.cond (.tmp t) p q)::k) .normal env H:=
 AWP.cond ⟨_,h1,false,rfl,And.intro (fun e=>by cases e) (fun _=>h)⟩
theorem go_condB {t:Nat} {p q:Code} {b:Bool} (h1:look env t=some (.bool b)) (h:b=true→(Out P G T own nt ρ C rs R) (.code p::k) .normal ((t,.bool true)::env) H) (h':b=false→(Out P G T own nt ρ C rs R) (.code q::k) .normal ((t,.bool false)::env) H):(Out P G T own nt ρ C rs R) (.code (.cond (.tmp t) p q)::k) .normal env H:=
 AWP.cond ⟨_,h1,b,rfl,And.intro (fun e=>Out.eqE (k:= .code p::k) (EqE.shadow (e ▸ h1)) (h e)) (fun e=>Out.eqE (k:= .code q::k) (EqE.shadow (e ▸ h1)) (h' e))⟩
theorem go_condD {t:Nat} {p q:Code} {a:Prop} {inst:Decidable a} (h1:look env t=some (.bool (decide a))) (h:a→(Out P G T own nt ρ C rs R) (.code p::k) .normal ((t,.bool true)::env) H) (h':¬ a→(Out P G T own nt ρ C rs R) (.code q::k) .normal ((t,.bool false)::env) H):(Out P G T own nt ρ C rs R) (.code (.cond (.tmp t) p q)::k) .normal env H:=
 go_condB h1 (fun e=>h (of_decide_eq_true e)) (fun e=>h' (of_decide_eq_false e))
theorem go_condDT {t:Nat} {p q:Code} {a:Prop} {inst:Decidable a} (h1:look env t=some (.bool (decide a))) (ha:a) (h:(Out P G T own nt ρ C rs R) (.code p::k) .normal ((t,.bool true)::env) H):(Out P G T own nt ρ C rs R) (.code (.cond (.tmp t) p q)::k) .normal env H:=
 go_condD h1 (fun _=>h) (fun e=>(e ha).elim)
theorem go_condDF {t:Nat} {p q:Code} {a:Prop} {inst:Decidable a} (h1:look env t=some (.bool (decide a))) (ha:¬ a) (h:(Out P G T own nt ρ C rs R) (.code q::k) .normal ((t,.bool false)::env) H):(Out P G T own nt ρ C rs R) (.code (.cond (.tmp t) p q)::k) .normal env H:=
 go_condD h1 (fun e=>(ha e).elim) (fun _=>h)
section
variable {all r:List Oper} {ty d j dj:Nat} {op:Op} {pos:String} {after:Array Edge} {v:SV} {want:Bool}
theorem go_q (h:qv G T own env H (some d) ty op=some v) (hd:Nat.blt d nt=true) (hk:(Out P G T own nt ρ C rs R) (.ops all r::k) .normal ((d,v)::env) H):(Out P G T own nt ρ C rs R) (.ops all (⟨some d,op,ty,pos,after,none⟩::r)::k) .normal env H:=
 OW.cons rfl (qv_ok (k:=fun x H'=>putK nt (some d) x env fun env'=>OW P G T nt ρ C all r (fun e s=>Out P G T own nt ρ C rs R k e s.env s.H) env' H') h ⟨by have:=Nat.blt_eq ▸ hd;exact this,hk⟩)
theorem go_q0 (h:qv G T own env H none ty op=some v) (hk:(Out P G T own nt ρ C rs R) (.ops all r::k) .normal env H):(Out P G T own nt ρ C rs R) (.ops all (⟨none,op,ty,pos,after,none⟩::r)::k) .normal env H:=
 OW.cons rfl (qv_ok (k:=fun x H'=>putK nt none x env fun env'=>OW P G T nt ρ C all r (fun e s=>Out P G T own nt ρ C rs R k e s.env s.H) env' H') h hk)
theorem go_l (h:lv G T own env H (some d) ty op=some (v,H')) (hd:Nat.blt d nt=true) (hk:(Out P G T own nt ρ C rs R) (.ops all r::k) .normal ((d,v)::env) H'):(Out P G T own nt ρ C rs R) (.ops all (⟨some d,op,ty,pos,after,none⟩::r)::k) .normal env H:=
 OW.cons rfl (lv_ok (k:=fun x H'=>putK nt (some d) x env fun env'=>OW P G T nt ρ C all r (fun e s=>Out P G T own nt ρ C rs R k e s.env s.H) env' H') h ⟨by have:=Nat.blt_eq ▸ hd;exact this,hk⟩)
theorem go_l0 (h:lv G T own env H none ty op=some (v,H')) (hk:(Out P G T own nt ρ C rs R) (.ops all r::k) .normal env H'):(Out P G T own nt ρ C rs R) (.ops all (⟨none,op,ty,pos,after,none⟩::r)::k) .normal env H:=
 OW.cons rfl (lv_ok (k:=fun x H'=>putK nt none x env fun env'=>OW P G T nt ρ C all r (fun e s=>Out P G T own nt ρ C rs R k e s.env s.H) env' H') h hk)
theorem go_gRun {dst:Option Nat} (h1:(all[j]?).bind (·.dst)=some dj) (h2:look env dj=some (.bool want)) (hk:(Out P G T own nt ρ C rs R) (.ops all (⟨dst,op,ty,pos,after,none⟩::r)::k) .normal env H):(Out P G T own nt ρ C rs R) (.ops all (⟨dst,op,ty,pos,after,some (j,want)⟩::r)::k) .normal env H:=
 OW.gRun rfl h1 h2 hk
theorem go_gSkip {v:SV} {b:Option Bool} (h1:(all[j]?).bind (·.dst)=some dj) (h2:look env dj=some v) (h3:asG v=some b) (hb:(b==some want)=false) (hd:Nat.blt d nt=true) (hk:(Out P G T own nt ρ C rs R) (.ops all r::k) .normal ((d,.undef)::env) H):(Out P G T own nt ρ C rs R) (.ops all (⟨some d,op,ty,pos,after,some (j,want)⟩::r)::k) .normal env H:=
 OW.gSkip rfl h1 h2 h3 hb ⟨by have:=Nat.blt_eq ▸ hd;exact this,hk⟩
theorem go_gSkip0 {v:SV} {b:Option Bool} (h1:(all[j]?).bind (·.dst)=some dj) (h2:look env dj=some v) (h3:asG v=some b) (hb:(b==some want)=false) (hk:(Out P G T own nt ρ C rs R) (.ops all r::k) .normal env H):(Out P G T own nt ρ C rs R) (.ops all (⟨none,op,ty,pos,after,some (j,want)⟩::r)::k) .normal env H:=
 OW.gSkip rfl h1 h2 h3 hb hk
theorem go_gB {o:Oper} {b:Bool} (hg:o.guard=some (j,want)) (h1:(all[j]?).bind (·.dst)=some dj) (h2:look env dj=some (.bool b)) (h:b=true→(Out P G T own nt ρ C rs R) (.ops all (o::r)::k) .normal ((dj,.bool true)::env) H) (h':b=false→(Out P G T own nt ρ C rs R) (.ops all (o::r)::k) .normal ((dj,.bool false)::env) H):(Out P G T own nt ρ C rs R) (.ops all (o::r)::k) .normal env H:=by
 cases b with
 |true=>exact Out.eqE (k:= .ops all (o::r)::k) (EqE.shadow h2) (h rfl)
 |false=>exact Out.eqE (k:= .ops all (o::r)::k) (EqE.shadow h2) (h' rfl)
theorem go_gD {o:Oper} {a:Prop} {inst:Decidable a} (hg:o.guard=some (j,want)) (h1:(all[j]?).bind (·.dst)=some dj) (h2:look env dj=some (.bool (decide a))) (h:a→(Out P G T own nt ρ C rs R) (.ops all (o::r)::k) .normal ((dj,.bool true)::env) H) (h':¬ a→(Out P G T own nt ρ C rs R) (.ops all (o::r)::k) .normal ((dj,.bool false)::env) H):(Out P G T own nt ρ C rs R) (.ops all (o::r)::k) .normal env H:=
 go_gB hg h1 h2 (fun e=>h (of_decide_eq_true e)) (fun e=>h' (of_decide_eq_false e))
theorem go_gM1 {b:Bool} (h1:(all[j]?).bind (·.dst)=some dj) (h2:look env dj=some (.bool b)) (hv:b=want→qv G T own env H (some d) ty op=some v) (hd:Nat.blt d nt=true) (hk:(Out P G T own nt ρ C rs R) (.ops all r::k) .normal ((d,gv b want v)::env) H):(Out P G T own nt ρ C rs R) (.ops all (⟨some d,op,ty,pos,after,some (j,want)⟩::r)::k) .normal env H:=by
 by_cases hw:b=want
 ·subst hw
  rw[gv_self] at hk
  exact go_gRun h1 h2 (go_q (hv rfl) hd hk)
 ·have e:gv b want v= .undef:=by cases b<;>cases want<;>first|rfl|exact(hw rfl).elim
  rw[e] at hk
  exact go_gSkip h1 h2 rfl (by cases b<;>cases want<;>first|rfl|exact(hw rfl).elim) hd hk
theorem go_gM2 {b b1 w1:Bool} (h1:(all[j]?).bind (·.dst)=some dj) (h2:look env dj=some (gv b1 w1 (.bool b))) (hv:b1=w1→b=want→qv G T own env H (some d) ty op=some v) (hd:Nat.blt d nt=true) (hk:(Out P G T own nt ρ C rs R) (.ops all r::k) .normal ((d,gv b1 w1 (gv b want v))::env) H):(Out P G T own nt ρ C rs R) (.ops all (⟨some d,op,ty,pos,after,some (j,want)⟩::r)::k) .normal env H:=by
 by_cases hw:b1=w1
 ·subst hw
  rw[gv_self] at hk h2
  exact go_gM1 h1 h2 (hv rfl) hd hk
 ·have e:∀ x,gv b1 w1 x= .undef:=fun x=>by cases b1<;>cases w1<;>first|rfl|exact(hw rfl).elim
  rw[e] at hk h2
  exact go_gSkip h1 h2 rfl rfl hd hk
theorem go_gM3 {b b1 w1 b2 w2:Bool} (h1:(all[j]?).bind (·.dst)=some dj) (h2:look env dj=some (gv b1 w1 (gv b2 w2 (.bool b)))) (hv:b1=w1→b2=w2→b=want→qv G T own env H (some d) ty op=some v) (hd:Nat.blt d nt=true) (hk:(Out P G T own nt ρ C rs R) (.ops all r::k) .normal ((d,gv b1 w1 (gv b2 w2 (gv b want v)))::env) H):(Out P G T own nt ρ C rs R) (.ops all (⟨some d,op,ty,pos,after,some (j,want)⟩::r)::k) .normal env H:=by
 by_cases hw:b1=w1
 ·subst hw
  rw[gv_self] at hk h2
  exact go_gM2 h1 h2 (hv rfl) hd hk
 ·have e:∀ x,gv b1 w1 x= .undef:=fun x=>by cases b1<;>cases w1<;>first|rfl|exact(hw rfl).elim
  rw[e] at hk h2
  exact go_gSkip h1 h2 rfl rfl hd hk
theorem go_gX {o:Oper} {b1 w1:Bool} {u:SV} (hg:o.guard=some (j,want)) (h1:(all[j]?).bind (·.dst)=some dj) (h2:look env dj=some (gv b1 w1 u)) (h:∀ c,b1=c→(Out P G T own nt ρ C rs R) (.ops all (o::r)::k) .normal env H):(Out P G T own nt ρ C rs R) (.ops all (o::r)::k) .normal env H:=h _ rfl
def slLen (H:List Blk):SV→Option Nat
 | .list _ xs=>some xs.length
 | .sl id g _ n=>match blkOf H id g with
  |some _=>some n
  |none=>none
 |_=>none
theorem exOp_nilq {dst:Option Nat} {x y:Operand} {X:SV} {t yt ty n:Nat} {eq:Bool} {kk:SV→List Blk→Prop} (h1:ev G env x=some X) (h2:ev G env y=some .nil) (h3:kindT T t=2) (h4:slLen H X=some n)
 (l:n=0→kk (.bool eq) H) (r:kk (.bool (!eq)) H):exOp P G T own env H dst ty (.binOp (if eq then .eql else .neq) t x y yt) kk:=by
 refine⟨X,h1,.nil,h2,fun hi=>?_,fun _=>?_⟩
 ·exfalso
  unfold isNilI at hi
  split at hi
  ·simp[ev,constSV,constCell] at h2
  ·cases hi
 unfold slLen at h4
 split at h4
 ·cases h4
  cases eq
  ·exact⟨h3,fun e=>l (by rw[e];rfl),r⟩
  ·exact⟨h3,fun e=>l (by rw[e];rfl),r⟩
 ·split at h4
  ·rename_i q hq
   cases h4
   cases eq
   ·exact⟨q,hq,h3,l,r⟩
   ·exact⟨q,hq,h3,l,r⟩
  ·cases h4
 ·cases h4
theorem go_nilE {x y:Operand} {X:SV} {t yt n:Nat} (h1:ev G env x=some X) (h2:ev G env y=some .nil) (h3:kindT T t=2) (h4:slLen H X=some n) (hd:Nat.blt d nt=true)
 (h:n=0→(Out P G T own nt ρ C rs R) (.ops all r::k) .normal ((d,.bool true)::env) H) (h':True→(Out P G T own nt ρ C rs R) (.ops all r::k) .normal ((d,.bool false)::env) H):(Out P G T own nt ρ C rs R) (.ops all (⟨some d,.binOp .eql t x y yt,ty,pos,after,none⟩::r)::k) .normal env H:=
 OW.cons rfl (exOp_nilq (P:=P) (own:=own) (dst:=some d) (ty:=ty) (yt:=yt) (eq:=true) (kk:=fun x H'=>putK nt (some d) x env fun env'=>OW P G T nt ρ C all r (fun e s=>Out P G T own nt ρ C rs R k e s.env s.H) env' H') h1 h2 h3 h4 (fun e=>⟨by have:=Nat.blt_eq ▸ hd;exact this,h e⟩) ⟨by have:=Nat.blt_eq ▸ hd;exact this,h' trivial⟩)
theorem go_nilN {x y:Operand} {X:SV} {t yt n:Nat} (h1:ev G env x=some X) (h2:ev G env y=some .nil) (h3:kindT T t=2) (h4:slLen H X=some n) (hd:Nat.blt d nt=true)
 (h:n=0→(Out P G T own nt ρ C rs R) (.ops all r::k) .normal ((d,.bool false)::env) H) (h':True→(Out P G T own nt ρ C rs R) (.ops all r::k) .normal ((d,.bool true)::env) H):(Out P G T own nt ρ C rs R) (.ops all (⟨some d,.binOp .neq t x y yt,ty,pos,after,none⟩::r)::k) .normal env H:=
 OW.cons rfl (exOp_nilq (P:=P) (own:=own) (dst:=some d) (ty:=ty) (yt:=yt) (eq:=false) (kk:=fun x H'=>putK nt (some d) x env fun env'=>OW P G T nt ρ C all r (fun e s=>Out P G T own nt ρ C rs R k e s.env s.H) env' H') h1 h2 h3 h4 (fun e=>⟨by have:=Nat.blt_eq ▸ hd;exact this,h e⟩) ⟨by have:=Nat.blt_eq ▸ hd;exact this,h' trivial⟩)
variable {R':SV→List Blk→Prop} {xs:List SV} {f:Operand} {fv:SV} {args:Array Operand} {tys:Array Nat} {g:FuncId}
theorem go_callV (h1:ev G env f=some fv) (h2:evs G env args.toList=some xs) (hd:Nat.blt d nt=true) (hc:ACallV P G fv xs H R') (hk:∀ x H',R' x H'→(Out P G T own nt ρ C rs R) (.ops all r::k) .normal ((d,x)::env) H'):(Out P G T own nt ρ C rs R) (.ops all (⟨some d,.call ⟨.value f,args,tys⟩,ty,pos,after,none⟩::r)::k) .normal env H:=
 OW.cons (own:=own) rfl ⟨fv,h1,xs,h2,hc.mono fun x H' hr=>⟨by have:=Nat.blt_eq ▸ hd;exact this,hk x H' hr⟩⟩
theorem go_call (h2:evs G env args.toList=some xs) (hd:Nat.blt d nt=true) (hc:ACall P G g xs H R') (hk:∀ x H',R' x H'→(Out P G T own nt ρ C rs R) (.ops all r::k) .normal ((d,x)::env) H'):(Out P G T own nt ρ C rs R) (.ops all (⟨some d,.call ⟨.value (.func g),args,tys⟩,ty,pos,after,none⟩::r)::k) .normal env H:=
 go_callV rfl h2 hd (ACallV.of (by simpa using hc)) hk
end
theorem AWP.monoW {c:Code} {Q Q':Exit→St→Prop} {s:St} (h:AWP P G nt ρ C c Q s) (hq:∀ e s',Q e s'→∃ s2,Wk G nt C s' s2∧Q' e s2):AWP P G nt ρ C c Q' s:=by
 intro c' a hc hi hg
 refine wpIn_mono (h c' a hc hi hg) ?_
 rintro e a' w' ⟨s',c2,h1,h2,h3,h4,h5⟩
 obtain⟨s2,h6,h7⟩:=hq e s' h1
 obtain⟨c3,e1,e2,e3,e4⟩:=h6 c2 a' h2 h4 h5
 exact⟨s2,c3,h7,e1,e2.trans h3,e3,e4⟩
theorem go_cut {α:Type} (E:α→Env) (M:α→List Blk) (I:α→Prop) {c:Code} (h1:∀ K,Back (∀ env' H' a,I a→Wk G nt C ⟨env',H'⟩ ⟨E a,M a⟩→K env' H')→(Out P G T own nt ρ C rs R) (.code c:: .pred K::k) .normal env H) (h2:∀ a,I a→(Out P G T own nt ρ C rs R) k .normal (E a) (M a)):(Out P G T own nt ρ C rs R) (.code c::k) .normal env H:=by
 have h:=h1 (fun env' H'=>∃ a,I a∧Wk G nt C ⟨env',H'⟩ ⟨E a,M a⟩) (fun env' H' a h3 h4=>⟨a,h3,h4⟩)
 refine AWP.monoW h ?_
 rintro e ⟨env',H'⟩ h'
 cases e with
 |normal=>
  obtain⟨env2,he,a,h3,h4⟩:=h'
  refine⟨⟨E a,M a⟩,fun c' a' q1 q2 q3=>h4 c' a' q1 ⟨q2.heap,q2.glob,q2.size,fun t x hx=>q2.env t x (by rw[← he t];exact hx),q2.defs⟩ q3,h2 a h3⟩
 |_=>exact⟨_,Wk.refl _,h'⟩
theorem go_loop {α:Type} (E:α→Env) (M:α→List Blk) (μ:α→Nat) (I:α→Prop) (a0:α) {x:Code} (h0:I a0) (hs:Wk G nt C ⟨env,H⟩ ⟨E a0,M a0⟩)
 (round:∀ K a,I a→Back (∀ env' H' a',μ a'<μ a→I a'→Wk G nt C ⟨env',H'⟩ ⟨E a',M a'⟩→K env' H')→(Out P G T own nt ρ C rs R) (.code x:: .pred K::k) .normal (E a) (M a)):(Out P G T own nt ρ C rs R) (.code (.loop x)::k) .normal env H:=by
 refine AWP.loopW (fun m s=>∃ a,I a∧μ a=m∧s=⟨E a,M a⟩) (μ a0) ⟨E a0,M a0⟩ hs ⟨a0,h0,rfl,rfl⟩ ?_
 rintro m s ⟨a,h1,rfl,rfl⟩
 refine AWP.mono (round (fun env' H'=>∃ m s2,m<μ a∧Wk G nt C ⟨env',H'⟩ s2∧∃ a,I a∧μ a=m∧s2=⟨E a,M a⟩) a h1 fun env' H' a' g1 g2 g3=>⟨μ a',⟨E a',M a'⟩,g1,g3,a',g2,rfl,rfl⟩) ?_
 rintro e ⟨env',H'⟩ h'
 cases e with
 |normal=>
  obtain⟨env2,he,m,s2,h3,h4,h5⟩:=h'
  exact⟨m,s2,h3,fun c' a' q1 q2 q3=>h4 c' a' q1 ⟨q2.heap,q2.glob,q2.size,fun t x hx=>q2.env t x (by rw[← he t];exact hx),q2.defs⟩ q3,h5⟩
 |_=>exact h'
theorem Fin.out {x:SV} {R0:SV→List Blk→Prop} (hR:Back (∀ y H',R0 y H'→R y H')) (h:R0 x H):Fin C H x R:=Fin.same (hR _ _ h)
theorem Fin.mono {x:SV} {R':SV→List Blk→Prop} (h:Fin C H x R') (hr:∀ y H',R' y H'→R y H'):Fin C H x R:=fun c v h1 h2 h3 h4=>
 let ⟨c',y,e1,e2,e3⟩:=h c v h1 h2 h3 h4
 ⟨c',y,e1,hr _ _ e2,e3⟩
theorem RetK_of {e:Exit} {env:Env} {H:List Blk} (h:(Out P G T own nt ρ C rs R) [] e env H):RetK C T rs R e env H:=by
 cases e with
 |normal=>exact h
 |ret=>exact h
 |_=>exact h.elim
theorem ACall.of_go (T:Tab) (own:List Nat) (hT:TabOK P T) {f:FuncId} {fn:Func} {cd:Code} {args:List SV} {R:SV→List Blk→Prop} {rs:List ResultVar} (nt:Nat) (hf:P.funcs[f]? =some fn) (hb:fn.body=some cd) (hname:(fn.name== "runtime.NumGoroutine")=false)
 (hnt:fn.ntmps=nt) (hlen:args.length≤nt) (hrs:fn.results=⟨rs⟩) {ie:Env} (hie:initEnv args 0=ie)
 (h:∀ (C:Cx) (R':SV→List Blk→Prop),Back (∀ x H',R x H'→R' x H')→C.H=H→closed H→Based G C.H.length→Out P G T own nt none C rs R' [.code cd] .normal ie H):ACall P G f args H R:=
 ACall.of_awp hT hf hb hname hnt hlen (by rw[hrs]) fun C h1 h2 h3=>hie ▸ AWP.mono (h C R (fun _ _ h=>h) h1 h2 h3) fun e s h=>RetK_of h
end
theorem decide_not' {p:Prop} [Decidable p]:(!decide p)=decide (¬ p):=by simp
end
end Go.Proofs.YtggmfabkpnfodaaDoor
