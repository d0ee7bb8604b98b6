/- A part of the proof: SvH, SvI, SvJ, SvK. Names and spaces are cut short by program. -/
import Derived.Test.YtehfihnfeakmaaaGreatDoorMa
import Derived.Laws.Strings
import Derived.Laws.Concat
import Derived.Laws.StructEq
import Derived.Lib.ConvBytes
import Derived.Laws.BytesArg
import Derived.Laws.AppendOwn
import Derived.MapKept
set_option linter.unusedSimpArgs false
set_option linter.unusedVariables false
set_option maxRecDepth 10000
set_option maxHeartbeats 4000000
namespace Go.Proofs.YtehfihnfeakmaaaGreatDoor
open Go
section
section
variable {P:Program} {G:Gl} {T:aT} {own:List Nat} {nt B:Nat} {c:Cx} {env:List (Nat×SV)} {a:Act} {ρ:Option Nat}
variable {o:Oper} {next:Act→World→Prop} {Q:Exit→Act→World→Prop} {k:SV→List ax→Prop}
theorem dA {t:Nat} {e:Nat×TI} (hT:aq P T) (h:elemOf T t=some e):P.underlying t=some (.slice e.1)∧aL P e.1 e.2:=by
 unfold elemOf at h
 split at h
 ·rename_i q s b z hq
  split at h
  ·rename_i i hi
   cases h
   exact⟨(hT _ _ hq).1,hT _ _ hi⟩
  ·cases h
 ·cases h
theorem eu {t:Nat} {i:TI} (h:aL P t i):∃ info,P.info? t=some info∧info.size=i.size∧info.bytes=i.bytes:=by
 obtain⟨_,info,z,h1,h2,h3,_⟩:=h
 exact⟨info,h1,h2,h3⟩
theorem x6 (c:Cx) (hi:aO c) (n:Nat):Grow c (c.add (.cells 0 n []) none c.w)∧aO (c.add (.cells 0 n []) none c.w)∧aG (c.add (.cells 0 n []) none c.w) (.sl c.H.length 0 0 0) (.slice none 0 0):=by
 obtain⟨g1,g2⟩:=Cx.fresh hi c.w.heap.size (Nat.le_refl _) 0 none (.inl rfl) (.cells 0 n []) (w':=c.w) (fun _ _=>rfl) (Nat.le_refl _) rfl rfl rfl (fun hg=> .inl ⟨by simp,rfl⟩)
 exact⟨g1,g2,fK c n [] none c.w (Nat.le_refl _) (Nat.zero_le _) (.inl ⟨rfl,.inr (Nat.le_refl _)⟩)⟩
theorem wp_assign {x:Operand} (hi:Inv G nt B c env a) (ho:o.op= .assign x) (h:cH P G T own env c.H o.dst o.type (.assign x) k)
 (hk:∀ x c' u,k x c'.H→aO c'→aG c' x u→Grow c c'→next (a.put o.dst u) c'.w):o.wpIn (FR ρ) 0 P a c.w next Q:=by
 have hr:(execOp a.eval o).run P c.w= .ok (.value (a.eval x)) c.w:=by simp[execOp,ho]
 have hd:∀ c,o.op≠ .defer c:=by rw[ho];intro _ e;cases e
 simp only[cH] at h
 cases hin:oD o.dst own with
 |true=>
  obtain⟨e,_,v,hv,hk'⟩:=h.1 hin
  have hrep:=bP hi hv
  split at hk'
  ·simp only[aG] at hrep
   obtain⟨g1,g2,g3⟩:=x6 c hi.heap e.2.size
   exact ez hd hr (hk _ (c.add _ none c.w) _ hk' g2 (hrep ▸ g3) g1)
  ·exact wp_pure hi hk hd hrep hk' hr
 |false=>
  obtain⟨v,hv,hk'⟩:=h.2 hin
  exact wp_pure hi hk hd (bP hi hv) hk' hr
theorem wc {v:SV} {g:Bool} (h:Hg v=some g):v= .bool g:=by cases v<;>simp_all [Hg]
theorem iX {v:SV} {n:Int} (h:Cf v=some n):∃ i,v= .int i n:=by cases v<;>simp_all [Cf]
theorem Gs {x y z:Operand} (hi:Inv G nt B c env a) (ho:o.op= .pick x y z) (h:cH P G T own env c.H o.dst o.type (.pick x y z) k)
 (hk:∀ x c' u,k x c'.H→aO c'→aG c' x u→Grow c c'→next (a.put o.dst u) c'.w):o.wpIn (FR ρ) 0 P a c.w next Q:=by
 have hd:∀ c,o.op≠ .defer c:=by rw[ho];intro _ e;cases e
 obtain⟨v,hv,g,hg,hb⟩:=h
 have hrep:=bP hi hv
 rw[wc hg] at hrep
 simp only[aG] at hrep
 cases g with
 |true=>
  rw[EV] at hb
  obtain⟨r,h1,h2⟩:=hb
  exact wp_pure hi hk hd (bP hi h1) h2 (by simp[execOp,ho,hrep,asBool])
 |false=>
  rw[Ch] at hb
  obtain⟨r,h1,h2⟩:=hb
  exact wp_pure hi hk hd (bP hi h1) h2 (by simp[execOp,ho,hrep,asBool])
theorem wp_move {x:Operand} (hi:Inv G nt B c env a) (ho:o.op= .move x) (h:cH P G T own env c.H o.dst o.type (.move x) k)
 (hk:∀ x c' u,k x c'.H→aO c'→aG c' x u→Grow c c'→next (a.put o.dst u) c'.w):o.wpIn (FR ρ) 0 P a c.w next Q:=by
 obtain⟨v,hv,hk'⟩:=h
 exact wp_pure hi hk (by rw[ho];intro _ e;cases e) (bP hi hv) hk' (by simp[execOp,ho])
theorem zV {x:Operand} {j:Nat} (hi:Inv G nt B c env a) (ho:o.op= .extract x j) (h:cH P G T own env c.H o.dst o.type (.extract x j) k)
 (hk:∀ x c' u,k x c'.H→aO c'→aG c' x u→Grow c c'→next (a.put o.dst u) c'.w):o.wpIn (FR ρ) 0 P a c.w next Q:=by
 obtain⟨v,hv,hk'⟩:=h
 have hrep:=bP hi hv
 cases v with
 |tuple xs=>
  obtain⟨y,hy,hk'⟩:=hk'
  simp only[aG] at hrep
  obtain⟨vs,h1,h2⟩:=hrep
  obtain⟨u,h3,h4⟩:=h1.get hy
  exact wp_pure hi hk (by rw[ho];intro _ e;cases e) h4 hk' (by simp[execOp,ho,h2,Instr.extract,h3])
 |_=>exact hk'.elim
theorem yu {f:Fn} {xs ys:Array Operand} (hi:Inv G nt B c env a) (ho:o.op= .makeFunc f xs ys) (h:cH P G T own env c.H o.dst o.type (.makeFunc f xs ys) k)
 (hk:∀ x c' u,k x c'.H→aO c'→aG c' x u→Grow c c'→next (a.put o.dst u) c'.w):o.wpIn (FR ρ) 0 P a c.w next Q:=by
 obtain⟨p,h1,q,h2,h3⟩:=h
 refine wp_pure (u:= .func f (xs.map a.eval) (ys.map a.eval)) hi hk (by rw[ho];intro _ e;cases e) ?_ h3 (by simp[execOp,ho,Instr.makeFunc])
 simp only[aG]
 exact⟨_,_,uX hi h1,uX hi h2,by simp[← Array.toList_map]⟩
theorem yw {x:Operand} (hi:Inv G nt B c env a) (ho:o.op= .nilCheck x) (h:cH P G T own env c.H o.dst o.type (.nilCheck x) k)
 (hk:∀ x c' u,k x c'.H→aO c'→aG c' x u→Grow c c'→next (a.put o.dst u) c'.w):o.wpIn (FR ρ) 0 P a c.w next Q:=by
 obtain⟨v,hv,hn,hk'⟩:=h
 have hrep:=bP hi hv
 refine wp_pure hi hk (by rw[ho];intro _ e;cases e) hrep hk' ?_
 cases v with
 |kC y=>simp only[aG] at hrep;obtain⟨b,o',u,h1,_⟩:=hrep;simp[execOp,ho,h1]
 |ptr id g j off=>
  simp only[ml,Option.isSome_iff_exists] at hn
  obtain⟨⟨sz,vals⟩,hb⟩:=hn
  obtain⟨_,b,o',_,h1⟩:=hrep.lW (cz hb)
  simp[execOp,ho,h1]
 |fn f xs ys=>
  cases f with
  |func f=>simp only[aG] at hrep;obtain⟨us,vs,_,_,h1⟩:=hrep;simp[execOp,ho,h1]
  |_=>cases hn
 |_=>cases hn
theorem sX {t:Nat} {p:Option IntKind×TI} (hT:aq P T) (h:dB T t=some p):∃ kt et,P.underlying t=some (.map kt et)∧aL P et p.2∧
 (match p.1 with
  |some k=>P.underlying kt=some (.int k)
  |none=>P.underlying kt=some .string):=by
 unfold dB at h
 split at h
 ·rename_i kt et _ _ _ hq
  split at h
  ·rename_i j _ _ _ hk
   split at h
   ·rename_i i hi;cases h;exact⟨kt,et,(hT _ _ hq).1,hT _ _ hi,(hT _ _ hk).1⟩
   ·cases h
  ·rename_i hk
   split at h
   ·rename_i i hi;cases h;exact⟨kt,et,(hT _ _ hq).1,hT _ _ hi,(hT _ _ hk).1⟩
   ·cases h
  ·cases h
 ·cases h
theorem zW {t:Nat} (hi:Inv G nt B c env a) (ho:o.op= .makeMap t none) (h:cH P G T own env c.H o.dst o.type (.makeMap t none) k)
 (hk:∀ x c' u,k x c'.H→aO c'→aG c' x u→Grow c c'→next (a.put o.dst u) c'.w):o.wpIn (FR ρ) 0 P a c.w next Q:=by
 obtain⟨p,_,h⟩:=h
 have hnew:(c.w.alloc (.map #[] 0)).heap[c.w.heap.size]? =some (.map #[] 0):=heap_alloc_new c.w _
 obtain⟨g1,g2⟩:=Cx.fresh hi.heap (w':=c.w.alloc (.map #[] 0)) c.w.heap.size (Nat.le_refl _) 0 (some (c.w.heap.size,0)) (.inr rfl) (.map p.1 [])
  (fun b hb=>heap_alloc_old c.w _ b hb) (by simp) rfl rfl rfl (fun hg=>⟨c.w.heap.size,#[],0,by simp,hnew,by simp[ck],by simp,by simp[qk]⟩)
 refine ez (u:= .map (some c.w.heap.size)) (w':=c.w.alloc (.map #[] 0)) (by rw[ho];intro _ e;cases e) (by simp[execOp,ho,Instr.makeMap]) (hk _ (c.add (.map p.1 []) (some (c.w.heap.size,0)) (c.w.alloc (.map #[] 0))) _ h g2 ?_ g1)
 simp[aG,Value.oneCell']
theorem ng {t f:Nat} {p:Nat×TI} (hT:aq P T) (h:jU T t f=some p):∃ fl fd,P.underlying t=some (.struct fl)∧fl[f]? =some fd∧fd.offset=p.1∧aL P fd.type p.2∧p.2.size≠0:=by
 unfold jU at h
 split at h
 ·rename_i fs _ _ _ _ hq
  split at h
  ·rename_i off ft hf
   split at h
   ·rename_i i hi
    split at h
    ·cases h
    ·rename_i hz
     cases h
     obtain⟨⟨fl,h1,h2⟩,_⟩:=(hT _ _ hq).1
     rw[← h2] at hf
     simp only[List.getElem?_map,Option.map_eq_some_iff,Prod.mk.injEq] at hf
     obtain⟨fd,h3,h4,h5⟩:=hf
     exact⟨fl,fd,h1,by simpa using h3,h4,h5 ▸ hT _ _ hi,hz⟩
   ·cases h
  ·cases h
 ·cases h
theorem nR {t:Nat} {i:TI} (hi:aL P t i) (hz:i.size≠0) {fd:Field} (ht:fd.type=t) (b o':Nat) (w:World):(fieldPlace ⟨b,o',none⟩ fd).run P w= .ok ⟨b,o'+fd.offset,none⟩ w:=by
 obtain⟨info,h1,h2,_⟩:=eu hi
 simp[fieldPlace,sizeOf,typeInfo,ht,h1,h2,hz,Addr.add_mid]
theorem vJ {t f:Nat} {x:Operand} (hT:aq P T) (hi:Inv G nt B c env a) (ho:o.op= .fieldAddr t x f) (h:cH P G T own env c.H o.dst o.type (.fieldAddr t x f) k)
 (hk:∀ x c' u,k x c'.H→aO c'→aG c' x u→Grow c c'→next (a.put o.dst u) c'.w):o.wpIn (FR ρ) 0 P a c.w next Q:=by
 obtain⟨p,h1,v,h2,h3,y,h4,h5⟩:=h
 obtain⟨fl,fd,u1,u2,u3,u4,u5⟩:=ng hT h1
 have hrep:=bP hi h2
 have hrun:∀ b o',a.eval x= .pointer (some ⟨b,o',none⟩)→(execOp a.eval o).run P c.w= .ok (.value (.pointer (some ⟨b,o'+p.1,none⟩))) c.w:=fun b o' he=>by
  have:=nR u4 u5 rfl b o' c.w
  simp[execOp,ho,Instr.fieldAt,run_underlying u1,u2,he,Instr.sureAddr,this,u3]
 have hd:∀ c,o.op≠ .defer c:=by rw[ho];intro _ e;cases e
 cases v with
 |kC z=>
  simp only[eY] at h4
  split at h4
  ·rename_i q hq
   cases h4
   simp only[aG] at hrep
   obtain⟨b,o',u,e1,e2,e3,e4,e5⟩:=hrep
   obtain⟨u',e6,e7,e8⟩:=oU e2 hq
   refine wp_pure hi hk hd ?_ h5 (hrun b o' e1)
   simp only[aG]
   exact⟨b,o'+p.1,u',rfl,e6,(e6.dG e7).1,fun j v hv=>by rw[Nat.add_assoc];exact e4 _ _ (e8 j v hv),e5⟩
  ·cases h4
 |ptr id g j off=>
  simp only[eY] at h4;cases h4
  simp only[ml,Option.isSome_iff_exists] at h3
  obtain⟨⟨sz,vals⟩,hb⟩:=h3
  have hb':=cz hb
  obtain⟨e0,b,o',e1,e2⟩:=hrep.lW hb'
  refine wp_pure hi hk hd ?_ h5 (hrun b _ e2)
  simp only[aG,hb']
  exact⟨rfl,.inr ⟨trivial,e0,b,o',e1,by rw[Nat.add_assoc _ off]⟩⟩
 |_=>simp[eY] at h4
theorem pr {t:Nat} {i:TI} (hi:aL P t i) {x:SV} {u:Value} (h:aG c x u) (hf:fits i x=true) {cs:Array Value} {off:Nat} (hr:∀ j v,u.cells.toList[j]? =some v→cs.toList[off+j]? =some v) (w:World):
 (part t cs off).run P w= .ok u w:=by
 obtain⟨info,i1,i2,_⟩:=eu hi
 obtain⟨f1,f2,f3,f4⟩:=h.dG hf
 by_cases ha:i.d.agg=true
 ·have e:=f3 ha
  have hag:(isAgg t).run P w= .ok true w:=by
   unfold isAgg
   cases hdd:i.d with
   |struct fs cmp=>have hd:=hi.1;rw[hdd] at hd;obtain⟨⟨fl,hu,_⟩,_⟩:=hd;rw[Sem.run_bind,run_underlying hu w];rfl
   |array n e=>have hd:=hi.1;rw[hdd] at hd;rw[Sem.run_bind,run_underlying hd w];rfl
   |_=>rw[hdd] at ha;cases ha
  have hex:cs.extract off (off+i.size)=u.cells:=by
   apply Array.ext'
   rw[Array.toList_extract,List.extract_eq_take_drop,Nat.add_sub_cancel_left]
   apply List.ext_getElem?
   intro j
   rw[List.getElem?_take]
   by_cases hj:j<i.size
   ·rw[if_pos hj,List.getElem?_drop]
    have hjl:j<u.cells.toList.length:=by rw[Array.length_toList];omega
    rw[hr j _ (List.getElem?_eq_getElem hjl),List.getElem?_eq_getElem hjl]
   ·rw[if_neg hj,List.getElem?_eq_none (by rw[Array.length_toList];omega)]
  simp[part,hag,sizeOf,typeInfo,i1,i2,hex,← e]
 ·have ha':i.d.agg=false:=by simpa using ha
  obtain⟨hone,hs1⟩:=f4 ha'
  have hag:(isAgg t).run P w= .ok false w:=by
   unfold isAgg
   have hgo:∀ d,P.underlying t=some d→d.isRow=false→(underlying t >>= fun d=>(match d with| .struct _| .array _ _=>pure true|_=>pure false:Sem Bool)).run P w= .ok false w:=fun d hu hrow=>by
    rw[Sem.run_bind,run_underlying hu w]
    cases d<;>first|rfl|cases hrow
   cases hdd:i.d with
   |struct fs cmp=>rw[hdd] at ha';cases ha'
   |array n e=>rw[hdd] at ha';cases ha'
   |func=>have hd:=hi.1;rw[hdd] at hd;obtain⟨p,q,r,hu⟩:=hd;exact hgo _ hu rfl
   |jI=>have hd:=hi.1;rw[hdd] at hd;obtain⟨m,hu⟩:=hd;exact hgo _ hu rfl
   |_=>have hd:=hi.1;rw[hdd] at hd;exact hgo _ hd rfl
  have hc:=hr 0 u (by rw[en hone];rfl)
  simp[part,hag,show cs[off]? =some u from by simpa using hc]
theorem EB {t f:Nat} {x:Operand} (hT:aq P T) (hi:Inv G nt B c env a) (ho:o.op= .field t x f) (h:cH P G T own env c.H o.dst o.type (.field t x f) k)
 (hk:∀ x c' u,k x c'.H→aO c'→aG c' x u→Grow c c'→next (a.put o.dst u) c'.w):o.wpIn (FR ρ) 0 P a c.w next Q:=by
 obtain⟨p,h1,v,h2,hag,y,h4,h5⟩:=h
 obtain⟨fl,fd,u1,u2,u3,u4,u5⟩:=ng hT h1
 have hrep:=bP hi h2
 obtain⟨u',e6,e7,e8⟩:=oU hrep h4
 refine wp_pure hi hk (by rw[ho];intro _ e;cases e) e6 h5 ?_
 have hagg:∃ cs,a.eval x= .agg cs:=by
  cases v with
  |agg fs=>simp only[aG] at hrep;obtain⟨vs,_,_,e⟩:=hrep;exact⟨_,e⟩
  |_=>cases hag
 obtain⟨cs,he⟩:=hagg
 have:=pr u4 e6 e7 (cs:=cs) (off:=p.1) (by rw[he] at e8;exact e8) c.w
 simp[execOp,ho,Instr.field,run_underlying u1,u2,he,asAgg,u3,this]
theorem yI {t:Nat} {p:Nat×TI} (hT:aq P T) (h:wa T t=some p):∃ e,P.underlying t=some (.array p.1 e)∧aL P e p.2:=by
 unfold wa at h
 split at h
 ·rename_i n e _ _ _ hq
  split at h
  ·rename_i i hi;cases h;exact⟨e,(hT _ _ hq).1,hT _ _ hi⟩
  ·cases h
 ·cases h
theorem vK {t:Nat} {x y:Operand} (hT:aq P T) (hi:Inv G nt B c env a) (ho:o.op= .indexAddr t x y) (h:cH P G T own env c.H o.dst o.type (.indexAddr t x y) k)
 (hk:∀ x c' u,k x c'.H→aO c'→aG c' x u→Grow c c'→next (a.put o.dst u) c'.w):o.wpIn (FR ρ) 0 P a c.w next Q:=by
 obtain⟨s,h2,iv,h3,n,h4,h⟩:=h
 by_cases hp:Av s=true
 ·obtain⟨p,h1,⟨h5,h6⟩,y,h7,h8⟩:=h.1 hp
  obtain⟨e,ht,hei⟩:=yI hT h1
  obtain⟨info,i1,i2,_⟩:=eu hei
  have hs:=bP hi h2
  obtain⟨ik,rfl⟩:=iX h4
  have hn:=bP hi h3
  simp only[aG] at hn
  have hd:∀ c,o.op≠ .defer c:=by rw[ho];intro _ e;cases e
  have hrun:∀ b o',a.eval x= .pointer (some ⟨b,o',none⟩)→(execOp a.eval o).run P c.w= .ok (.value (.pointer (some ⟨b,o'+n.toNat*p.2.size,none⟩))) c.w:=fun b o' he=>by
   simp[execOp,ho,Instr.indexAt,he,hn.1,asIntOf,run_underlying ht,Instr.sureAddr,sizeOf,typeInfo,i1,i2,h5,Addr.add_mid]
  cases s with
  |kC z=>
   simp only[eY] at h7
   split at h7
   ·rename_i q hq
    cases h7
    simp only[aG] at hs
    obtain⟨b,o',u,e1,e2,e3,e4,e5⟩:=hs
    obtain⟨u',e6,e7,e8⟩:=oU e2 hq
    refine wp_pure hi hk hd ?_ h8 (hrun b o' e1)
    simp only[aG]
    exact⟨b,o'+n.toNat*p.2.size,u',rfl,e6,(e6.dG e7).1,fun j v hv=>by rw[Nat.add_assoc];exact e4 _ _ (e8 j v hv),e5⟩
   ·cases h7
  |ptr id g j off=>
   simp only[eY] at h7;cases h7
   simp only[ml,Option.isSome_iff_exists] at h6
   obtain⟨⟨sz,vals⟩,hb⟩:=h6
   have hb':=cz hb
   obtain⟨e0,b,o',e1,e2⟩:=hs.lW hb'
   refine wp_pure hi hk hd ?_ h8 (hrun b _ e2)
   simp only[aG,hb']
   exact⟨rfl,.inr ⟨trivial,e0,b,o',e1,by rw[Nat.add_assoc _ off]⟩⟩
  |_=>cases hp
 obtain⟨e,h1,xs,h5,h6,z,h7,h8⟩:=h.2 (by simpa using hp)
 obtain⟨ht,hei⟩:=dA hT h1
 obtain⟨info,i1,i2,_⟩:=eu hei
 have hs:=bP hi h2
 obtain⟨ik,rfl⟩:=iX h4
 have hn:=bP hi h3
 simp only[aG] at hn
 have hlt:n.toNat<xs.length:=(List.getElem?_eq_some_iff.1 h7).1
 have hd:∀ c,o.op≠ .defer c:=by rw[ho];intro _ e;cases e
 have hrun:∀ aa cap,a.eval x= .slice (some aa) xs.length cap→(execOp a.eval o).run P c.w= .ok (.value (.pointer (some (aa.add (n.toNat*e.2.size))))) c.w:=fun aa cap hx=>by
  have hcond:0≤n∧n<(xs.length:Int):=⟨h6,by omega⟩
  simp[execOp,ho,Instr.indexAt,hx,hn.1,asIntOf,run_underlying ht,sizeOf,typeInfo,i1,i2,hcond]
 cases s with
 |list sz l=>
  obtain⟨hsz,hk'⟩:=h8
  simp only[dJ,Option.some.injEq] at h5;subst h5
  simp only[aG] at hs
  obtain⟨aa,cap,e1,e2,e3,e4⟩:=hs
  rcases e4 with e4|⟨b,o',vs,e4,e5,e6,e7,e8⟩
  ·subst e4;simp at hlt
  ·subst e4
   obtain⟨u,g1,g2⟩:=e5.get h7
   refine wp_pure hi hk hd ?_ hk' (hrun _ _ e1)
   rw[Addr.add_mid]
   simp only[aG]
   subst hsz
   exact⟨b,_,u,rfl,g2,(e6 u (List.mem_of_getElem? g1)).2,gx e7 (fun u hu=>(e6 u hu).1) g1,e8⟩
 |sl id g off len=>
  obtain⟨⟨sz,vals⟩,hb,hsz,hk'⟩:=h8
  simp only at hsz;subst hsz
  have hb':=cz hb
  simp only[dJ,hb,Option.some.injEq] at h5
  simp only[aG,hb'] at hs
  rcases hs.2 with hs|⟨_,e1,aa,cap,e2,e3,e4,e5⟩
  ·omega
  have hlen:xs.length=len:=by rw[← h5];simp;omega
  rcases e5 with e5|⟨b,o',cs,Ty,fr,e5,e6,e7,e8⟩
  ·exact absurd e5.1 (Nat.ne_of_gt (Nat.lt_of_lt_of_le (Nat.lt_of_le_of_lt (Nat.zero_le _) (hlen ▸ hlt)) e3))
  ·subst e6
   refine wp_pure hi hk hd ?_ hk' (hrun _ _ (by rw[e2,hlen]))
   rw[Addr.add_mid]
   simp only[aG,hb']
   refine⟨rfl,.inr ⟨trivial,by omega,b,o',e5,?_⟩⟩
   rw[Nat.add_mul];simp[Nat.add_assoc]
 |_=>exact h8.elim
theorem EC {t:Nat} {x y:Operand} (hT:aq P T) (hi:Inv G nt B c env a) (ho:o.op= .index t x y) (h:cH P G T own env c.H o.dst o.type (.index t x y) k)
 (hk:∀ x c' u,k x c'.H→aO c'→aG c' x u→Grow c c'→next (a.put o.dst u) c'.w):o.wpIn (FR ρ) 0 P a c.w next Q:=by
 obtain⟨ti,h1,s,h2,iv,h3,n,h4,h5⟩:=h
 have hs:=bP hi h2
 obtain⟨ik,rfl⟩:=iX h4
 have hn:=bP hi h3
 simp only[aG] at hn
 have hti:=(hT _ _ h1).1
 split at h5
 ·rename_i bs hd0
  rw[hd0] at hti
  obtain⟨h6,b,h7,h8⟩:=h5
  simp only[aG] at hs
  refine wp_pure (x:= .int .u8 b.toNat) (u:= .int .u8 b.toNat) hi hk (by rw[ho];intro _ e;cases e) ?_ h8 ?_
  ·simp only[aG,IntKind.min,IntKind.max,IntKind.signed,IntKind.bits]
   have:=b.toNat_lt
   refine⟨trivial,?_,?_⟩<;>simp<;>omega
  ·have hu:P.underlying t=some .string:=hti
   have hget:(ByteArray.mk ⟨bs⟩)[n.toNat]? =some b:=by
    obtain⟨q1,q2⟩:=List.getElem?_eq_some_iff.1 h7
    rw[getElem?_pos (ByteArray.mk ⟨bs⟩) n.toNat (by show n.toNat<Array.size _;simpa using q1)]
    exact congrArg some q2
   simp[execOp,ho,Instr.index,hn.1,asIntOf,run_underlying hu,hs.1,h6,hget]
 ·rename_i m e fs hd0
  rw[hd0] at hti
  obtain⟨h6,ie,h7,y',h8,h9⟩:=h5
  obtain⟨u',e6,e7,e8⟩:=oU hs h8
  have hie:=hT _ _ h7
  obtain⟨info,i1,i2,_⟩:=eu hie
  refine wp_pure hi hk (by rw[ho];intro _ e;cases e) e6 h9 ?_
  have hu:P.underlying t=some (.array m e):=hti
  simp only[aG] at hs
  obtain⟨vs,_,_,he⟩:=hs
  have:=pr hie e6 e7 (cs:=vs.toArray) (off:=n.toNat*ie.size) (by rw[he] at e8;exact e8) c.w
  simp[execOp,ho,Instr.index,hn.1,asIntOf,run_underlying hu,he,h6,sizeOf,typeInfo,i1,i2,this]
 ·exact h5.elim
theorem sM (k:IntKind) (n:Int):k.min≤k.wrap n∧k.wrap n≤k.max:=by
 cases k<;>simp[IntKind.wrap,IntKind.min,IntKind.max,IntKind.signed,IntKind.bits]<;>(try split)<;>omega
theorem Gt {op:UnOp} {t:Nat} {x:Operand} (hi:Inv G nt B c env a) (ho:o.op= .unOp op t x) (h:cH P G T own env c.H o.dst o.type (.unOp op t x) k)
 (hk:∀ x c' u,k x c'.H→aO c'→aG c' x u→Grow c c'→next (a.put o.dst u) c'.w):o.wpIn (FR ρ) 0 P a c.w next Q:=by
 obtain⟨v,h1,h2⟩:=h
 have hv:=bP hi h1
 have hd:∀ c,o.op≠ .defer c:=by rw[ho];intro _ e;cases e
 unfold zO at h2
 split at h2
 ·rename_i b
  simp only[aG] at hv
  exact wp_pure (u:= .bool (!b)) hi hk hd (by simp only[aG]) h2 (by simp[execOp,ho,hv,Op.unary])
 ·rename_i i n
  simp only[aG] at hv
  refine wp_pure (u:= .int i (i.wrap (0 - n))) hi hk hd ?_ h2 (by simp[execOp,ho,hv.1,Op.unary,Op.intArith])
  simp only[aG]
  exact⟨by simp,sM _ _⟩
 ·exact h2.elim
end
end
section
section
variable {P:Program} {G:Gl} {T:aT} {own:List Nat} {nt B:Nat} {c:Cx} {env:List (Nat×SV)} {a:Act} {ρ:Option Nat}
variable {o:Oper} {next:Act→World→Prop} {Q:Exit→Act→World→Prop} {k:SV→List ax→Prop}
theorem eA {α:Type} [DecidableEq α] [BEq α] [LawfulBEq α] (x y:α):(x==y)=decide (x=y):=by
 by_cases h:x=y<;>simp[h]
theorem toList_mk (s:List UInt8):(ByteArray.mk ⟨s⟩).toList=s:=ByteArray.toList_eq _
theorem BU {k:IntKind} {x y:Int} (h1:k.min≤x∧x≤k.max):k.min≤x.tmod y∧x.tmod y≤k.max:=by
 have hm:k.min≤0∧0≤k.max:=by cases k<;>simp[IntKind.min,IntKind.max,IntKind.signed,IntKind.bits]
 rcases Int.le_total 0 x with h|h
 ·have a1:=Int.tmod_nonneg y h
  have a2:x.tmod y≤x:=by
   rw[Int.tmod_eq_emod_of_nonneg h]
   rcases Int.lt_trichotomy y 0 with hy|hy|hy
   ·have:=Int.emod_lt_of_neg x hy
    have:=Int.emod_nonneg x (show y≠0 by omega)
    by_cases hxy:x< -y
    ·have:x % y=x:=by rw[← Int.emod_neg];exact Int.emod_eq_of_lt h hxy
     omega
    ·omega
   ·subst hy;simp
   ·by_cases hxy:x<y
    ·rw[Int.emod_eq_of_lt h hxy];exact Int.le_refl _
    ·have:=Int.emod_lt_of_pos x hy;omega
  omega
 ·have e:x.tmod y= -((-x).tmod y):=by rw[Int.neg_tmod];omega
  have hx:0≤ -x:=by omega
  have a1:=Int.tmod_nonneg y hx
  have a2:(-x).tmod y≤ -x:=by
   rw[Int.tmod_eq_emod_of_nonneg hx]
   rcases Int.lt_trichotomy y 0 with hy|hy|hy
   ·have:=Int.emod_lt_of_neg (-x) hy
    by_cases hxy: -x< -y
    ·have:(-x) % y= -x:=by rw[← Int.emod_neg];exact Int.emod_eq_of_lt hx hxy
     omega
    ·omega
   ·subst hy;simp
   ·by_cases hxy: -x<y
    ·rw[Int.emod_eq_of_lt hx hxy];exact Int.le_refl _
    ·have:=Int.emod_lt_of_pos (-x) hy;omega
  omega
theorem zj {k:IntKind} {x:Int} (h1:k.min≤x∧x≤k.max) (n:Nat):k.min≤x.fdiv (2 ^ n)∧x.fdiv (2 ^ n)≤k.max:=by
 have hm:k.min≤0∧0≤k.max:=by cases k<;>simp[IntKind.min,IntKind.max,IntKind.signed,IntKind.bits]
 have hp:(0:Int)<2 ^ n:=Int.pow_pos (by omega)
 have h1p:(1:Int)≤2 ^ n:=hp
 rw[Int.fdiv_eq_ediv_of_nonneg _ (Int.le_of_lt hp)]
 constructor
 ·rcases Int.le_total 0 x with h|h
  ·have:=Int.ediv_nonneg h (Int.le_of_lt hp);omega
  ·have:x≤x / 2 ^ n:=by
    rw[Int.le_ediv_iff_mul_le hp]
    have:=Int.mul_le_mul_of_nonpos_left h h1p
    omega
   omega
 ·rcases Int.le_total 0 x with h|h
  ·have:=Int.ediv_le_self (2 ^ n) h;omega
  ·have:=Int.ediv_nonpos_of_nonpos_of_neg h hp
   omega
theorem rm {t:Nat} (hT:aq P T) (h:eZ T t=1):P.underlying t=some .bool:=by
 unfold eZ at h
 split at h<;>first|(rename_i q;exact(hT _ _ q).1)|omega
theorem fk {t:Nat} (hT:aq P T) (h:eZ T t=2):∃ e,P.underlying t=some (.slice e):=by
 unfold eZ at h
 split at h<;>first|(rename_i q;exact⟨_,(hT _ _ q).1⟩)|omega
theorem lR {t:Nat} (hT:aq P T) (h:eZ T t=3):∃ k e,P.underlying t=some (.map k e):=by
 unfold eZ at h
 split at h<;>first|(rename_i q;exact⟨_,_,(hT _ _ q).1⟩)|omega
theorem gC {t:Nat} (hT:aq P T) (h:eZ T t=4):∃ e,P.underlying t=some (.pointer e):=by
 unfold eZ at h
 split at h<;>first|(rename_i q;exact⟨_,(hT _ _ q).1⟩)|omega
theorem dw {t e:TypeId} (hu:P.underlying t=some (.slice e)) (a:Option Addr) (n c0 n' c':Nat) (w:World):(Op.equal t (.slice a n c0) (.slice none n' c')).run P w= .ok a.isNone w:=by
 have:∀ d:Nat,(Op.equalIn (d+1) t (.slice a n c0) (.slice none n' c')).run P w= .ok a.isNone w:=fun d=>by cases a<;>simp[Op.equalIn,run_underlying hu]
 exact this 9999
theorem fR {t k e:TypeId} (hu:P.underlying t=some (.map k e)) (a:Option Nat) (w:World):(Op.equal t (.map a) (.map none)).run P w= .ok a.isNone w:=by
 have:∀ d:Nat,(Op.equalIn (d+1) t (.map a) (.map none)).run P w= .ok a.isNone w:=fun d=>by cases a<;>simp[Op.equalIn,run_underlying hu]
 exact this 9999
theorem ep {t e:TypeId} (hu:P.underlying t=some (.pointer e)) (a:Option Addr) (w:World):(Op.equal t (.pointer a) (.pointer none)).run P w= .ok a.isNone w:=by
 have:∀ d:Nat,(Op.equalIn (d+1) t (.pointer a) (.pointer none)).run P w= .ok a.isNone w:=fun d=>by cases a<;>simp[Op.equalIn,run_underlying hu]
 exact this 9999
theorem run_equalIn_bool {t:Nat} (hu:P.underlying t=some .bool) (d:Nat) (x y:Bool) (w:World):(Op.equalIn (d+1) t (.bool x) (.bool y)).run P w= .ok (x==y) w:=by
 simp[Op.equalIn,run_underlying hu]
theorem run_equal_bool {t:Nat} (hu:P.underlying t=some .bool) (x y:Bool) (w:World):(Op.equal t (.bool x) (.bool y)).run P w= .ok (x==y) w:=run_equalIn_bool hu 9999 x y w
theorem bw {op:BinOp} {t yt:Nat} {X Y:Operand} (ho:o.op= .binOp op t X Y yt) {v:Value} {w:World} (hr:(binOp op t (a.eval X) (a.eval Y)).run P w= .ok v w) (h1:∀ cs,a.eval X≠ .agg cs) (h2:a.eval X≠ .nilIface):(execOp a.eval o).run P w= .ok (.value v) w:=by
 simp only[execOp,ho]
 have hg:(eqGuard op t X Y (a.eval X) (a.eval Y)).run P w= .ok () w:=by
  unfold eqGuard
  cases op<;>simp<;>(split<;>first|rfl|(rename_i e _;exact absurd e h2)|(rename_i e _;exact absurd e (h1 _)))
 simp[hg,hr]
theorem bj (c:Cx) (b:Bool):aG c (.bool b) (.bool b):=by simp only[aG]
theorem fa (c:Cx) (i:IntKind) (e:Int):aG c (.int i (i.wrap e)) (.int i (i.wrap e)):=by simp only[aG];exact⟨trivial,sM _ _⟩
theorem E9 {op:BinOp} {t:Nat} {Hb:List ax} {tb:Nat} {i j:IntKind} {m n:Int} (rx:i.min≤m∧m≤i.max) {K:SV→Prop} (h:dH Hb tb op (.int i m) (.int j n) K):
 ∃ z u,K z∧aG c z u∧(binOp op t (.int i m) (.int j n)).run P c.w= .ok u c.w:=by
 cases op with
 |shl=>obtain⟨h1,h2⟩:=h;exact⟨_,_,h2,fa c _ _,by simp[binOp,Op.shift,show ¬ n<0 by omega]⟩
 |shr=>obtain⟨h1,h2⟩:=h;exact⟨_,.int i (m.fdiv (2 ^ min n.toNat i.bits)),h2,by simp only[aG];exact⟨trivial,zj rx _⟩,by simp[binOp,Op.shift,show ¬ n<0 by omega]⟩
 |add=>
  simp only[dH] at h
  split at h
  ·rename_i e;subst e;exact⟨_,_,h,fa c _ _,by simp[binOp,Op.intArith]⟩
  ·exact h.elim
 |sub=>
  simp only[dH] at h
  split at h
  ·rename_i e;subst e;exact⟨_,_,h,fa c _ _,by simp[binOp,Op.intArith]⟩
  ·exact h.elim
 |mul=>
  simp only[dH] at h
  split at h
  ·rename_i e;subst e;exact⟨_,_,h,fa c _ _,by simp[binOp,Op.intArith]⟩
  ·exact h.elim
 |quo=>
  simp only[dH] at h
  split at h
  ·rename_i e;subst e;obtain⟨h1,h2⟩:=h;exact⟨_,_,h2,fa c _ _,by simp[binOp,Op.intDiv,h1]⟩
  ·exact h.elim
 |rem=>
  simp only[dH] at h
  split at h
  ·rename_i e;subst e;obtain⟨h1,h2⟩:=h;exact⟨_,.int i (m.tmod n),h2,by simp only[aG];exact⟨trivial,BU rx⟩,by simp[binOp,Op.intDiv,h1]⟩
  ·exact h.elim
 |and=>
  simp only[dH] at h
  split at h
  ·rename_i e;subst e;obtain⟨r,h1,h2⟩:=h;simp only[ko,Option.some.injEq] at h1;subst h1;exact⟨_,_,h2,fa c _ _,by simp[binOp,Op.intBits]⟩
  ·exact h.elim
 |or=>
  simp only[dH] at h
  split at h
  ·rename_i e;subst e;obtain⟨r,h1,h2⟩:=h;simp only[ko,Option.some.injEq] at h1;subst h1;exact⟨_,_,h2,fa c _ _,by simp[binOp,Op.intBits]⟩
  ·exact h.elim
 |xor=>
  simp only[dH] at h
  split at h
  ·rename_i e;subst e;obtain⟨r,h1,h2⟩:=h;simp only[ko,Option.some.injEq] at h1;subst h1;exact⟨_,_,h2,fa c _ _,by simp[binOp,Op.intBits]⟩
  ·exact h.elim
 |andNot=>
  simp only[dH] at h
  split at h
  ·rename_i e;subst e;obtain⟨r,h1,h2⟩:=h;simp only[ko,Option.some.injEq] at h1;subst h1;exact⟨_,_,h2,fa c _ _,by simp[binOp,Op.intBits]⟩
  ·exact h.elim
 |eql=>
  simp only[dH] at h
  split at h
  ·rename_i e;subst e;obtain⟨r,h1,h2⟩:=h;simp only[wA,Option.some.injEq] at h1;subst h1;exact⟨_,_,h2,bj c _,by simp[binOp,Op.intCmp,bne,eA]⟩
  ·exact h.elim
 |neq=>
  simp only[dH] at h
  split at h
  ·rename_i e;subst e;obtain⟨r,h1,h2⟩:=h;simp only[wA,Option.some.injEq] at h1;subst h1;exact⟨_,_,h2,bj c _,by simp[binOp,Op.intCmp,bne,eA]⟩
  ·exact h.elim
 |lss=>
  simp only[dH] at h
  split at h
  ·rename_i e;subst e;obtain⟨r,h1,h2⟩:=h;simp only[wA,Option.some.injEq] at h1;subst h1;exact⟨_,_,h2,bj c _,by simp[binOp,Op.intCmp,bne,eA]⟩
  ·exact h.elim
 |leq=>
  simp only[dH] at h
  split at h
  ·rename_i e;subst e;obtain⟨r,h1,h2⟩:=h;simp only[wA,Option.some.injEq] at h1;subst h1;exact⟨_,_,h2,bj c _,by simp[binOp,Op.intCmp,bne,eA]⟩
  ·exact h.elim
 |gtr=>
  simp only[dH] at h
  split at h
  ·rename_i e;subst e;obtain⟨r,h1,h2⟩:=h;simp only[wA,Option.some.injEq] at h1;subst h1;exact⟨_,_,h2,bj c _,by simp[binOp,Op.intCmp,bne,eA]⟩
  ·exact h.elim
 |geq=>
  simp only[dH] at h
  split at h
  ·rename_i e;subst e;obtain⟨r,h1,h2⟩:=h;simp only[wA,Option.some.injEq] at h1;subst h1;exact⟨_,_,h2,bj c _,by simp[binOp,Op.intCmp,bne,eA]⟩
  ·exact h.elim
theorem Fa {op:BinOp} {t:Nat} {Hb:List ax} {tb:Nat} {s r:List UInt8} {K:SV→Prop} (h:dH Hb tb op (.str s) (.str r) K):
 ∃ z u,K z∧aG c z u∧(Op.stringOp op ⟨⟨s⟩⟩ ⟨⟨r⟩⟩).run P c.w= .ok u c.w:=by
 cases op with
 |add=>
  obtain⟨h1,h2⟩:=h
  refine⟨.str (s++r),.string ⟨⟨s++r⟩⟩,h2,by simp only[aG];exact⟨trivial,by simpa using h1⟩,?_⟩
  rw[run_string_add_sum]
  ·rw[show(ByteArray.mk ⟨s⟩++ByteArray.mk ⟨r⟩)=ByteArray.mk ⟨s++r⟩ from ByteArray.ext (by rw[ByteArray.data_append];simp)]
  ·have:(ByteArray.mk ⟨s⟩).size=s.length:=rfl
   have:(ByteArray.mk ⟨r⟩).size=r.length:=rfl
   unfold maxLen at h1;omega
 |eql=>obtain⟨b,h1,h2⟩:=h;simp only[wB,Option.some.injEq] at h1;subst h1;exact⟨_,_,h2,bj c _,by simp[Op.stringOp,toList_mk,dm,eA]⟩
 |neq=>obtain⟨b,h1,h2⟩:=h;simp only[wB,Option.some.injEq] at h1;subst h1;exact⟨_,_,h2,bj c _,by simp[Op.stringOp,toList_mk,dm,eA]⟩
 |lss=>obtain⟨b,h1,h2⟩:=h;simp only[wB,Option.some.injEq] at h1;subst h1;exact⟨_,_,h2,bj c _,by simp[Op.stringOp,toList_mk,dm,eA]⟩
 |leq=>obtain⟨b,h1,h2⟩:=h;simp only[wB,Option.some.injEq] at h1;subst h1;exact⟨_,_,h2,bj c _,by simp[Op.stringOp,toList_mk,dm,eA]⟩
 |gtr=>obtain⟨b,h1,h2⟩:=h;simp only[wB,Option.some.injEq] at h1;subst h1;exact⟨_,_,h2,bj c _,by simp[Op.stringOp,toList_mk,dm,eA]⟩
 |geq=>obtain⟨b,h1,h2⟩:=h;simp only[wB,Option.some.injEq] at h1;subst h1;exact⟨_,_,h2,bj c _,by simp[Op.stringOp,toList_mk,dm,eA]⟩
 |_=>obtain⟨b,h1,h2⟩:=h;cases h1
theorem CY {x y:SV} {b:Bool} (h:sU x y=some b):1≤ir x:=by
 cases x<;>cases y<;>simp[sU] at h<;>simp[ir]
 split<;>omega
theorem wX (x:SV):ir x<6:=by cases x<;>simp[ir]<;>split<;>omega
theorem qD (T:aT) (t:Nat):1≤wY T t∧wY T t<8:=by
 unfold wY
 split
 ·split<;>omega
 all_goals omega
theorem mq {t:Nat} {d:TypeDesc} (hu:P.underlying t=some d) (hrow:d.isRow=false) {U:Array Value} {off:Nat} {u:Value} (h:U[off]? =some u) (w:World):(part t U off).run P w= .ok u w:=by
 have hag:(isAgg t).run P w= .ok false w:=by
  unfold isAgg
  rw[Sem.run_bind,run_underlying hu w]
  cases d<;>first|rfl|cases hrow
 simp only[part,Sem.run_bind,hag,Result.andThen_ok,Bool.false_eq_true,if_false,h,Sem.run_pure]
theorem FV (hT:aq P T) {t:Nat} {x y:SV} {u v:Value} {b:Bool} (hx:aG c x u) (hy:aG c y v) (hd:wY T t=ir x) (h:sU x y=some b) (d:Nat) (w:World):
 (∃ ds,P.underlying t=some ds∧ds.isRow=false)∧(Op.equalIn (d+1) t u v).run P w= .ok b w:=by
 have hp:=qD T t
 clear hp
 have hlt:=wX x
 unfold wY at hd
 split at hd
 ·rename_i k _ _ _ hg
  have hu:P.underlying t=some (.int k):=(hT _ _ hg).1
  by_cases hk:k= .i64
  ·subst hk
   rw[if_pos rfl] at hd
   cases x with
   |int i m=>
    simp only[ir] at hd
    split at hd
    ·rename_i hi;subst hi
     cases y with
     |int j n=>
      simp only[sU] at h
      split at h
      ·rename_i hj
       subst hj
       cases h
       simp only[aG] at hx hy
       rw[hx.1,hy.1]
       exact⟨⟨_,hu,rfl⟩,by rw[run_equalIn_int _ _ _ _ _ _ _ hu,eA]⟩
      ·cases h
     |_=>cases h
    ·omega
   |_=>simp[ir] at hd
  ·rw[if_neg hk] at hd;omega
 ·rename_i hg
  have hu:P.underlying t=some .string:=(hT _ _ hg).1
  cases x with
  |str s=>
   cases y with
   |str r=>
    simp only[sU] at h
    cases h
    simp only[aG] at hx hy
    rw[hx.1,hy.1]
    exact⟨⟨_,hu,rfl⟩,by rw[run_equalIn_string _ _ _ _ _ hu,toList_mk,toList_mk,eA]⟩
   |_=>cases h
  |int i m=>simp only[ir] at hd;split at hd<;>omega
  |_=>simp[ir] at hd
 ·rename_i hg
  have hu:P.underlying t=some .bool:=(hT _ _ hg).1
  cases x with
  |bool s=>
   cases y with
   |bool r=>
    simp only[sU] at h
    cases h
    simp only[aG] at hx hy
    rw[hx,hy]
    exact⟨⟨_,hu,rfl⟩,run_equalIn_bool' _ _ _ _ _ hu⟩
   |_=>cases h
  |int i m=>simp only[ir] at hd;split at hd<;>omega
  |_=>simp[ir] at hd
 ·omega
theorem o9 (hT:aq P T) {U V:Array Value} (d:Nat) (w:World):∀ (l:List Field) (n:Nat) (xs ys:List SV) (us vs:List Value) (b:Bool),l.map (fun f=>f.offset)=List.range' n l.length→(∀ f∈l,f.name≠ "_")→
 mY T (l.map fun f=>(f.offset,f.type))=dE xs→ot xs ys=some b→aC c xs us→aC c ys vs→(∀ j u,us[j]? =some u→U[n+j]? =some u)→(∀ j u,vs[j]? =some u→V[n+j]? =some u)→
 (Op.eqFields (d+1) U V l).run P w= .ok b w
 |[],n,xs,ys,us,vs,b,h1,h2,h3,h4,h5,h6,h7,h8=>by
  cases xs with
  |nil=>
   cases ys with
   |nil=>simp[ot] at h4;subst h4;simp[Op.eqFields]
   |cons=>cases h4
  |cons x xs=>
   cases ys with
   |nil=>cases h4
   |cons y ys=>
    simp only[ot] at h4
    cases he:sU x y with
    |none=>rw[he] at h4;cases h4
    |some r=>
     simp only[List.map_nil,mY,dE] at h3
     have:=CY he
     omega
 |f::l,n,xs,ys,us,vs,b,h1,h2,h3,h4,h5,h6,h7,h8=>by
  cases xs with
  |nil=>simp only[List.map_cons,mY,dE] at h3;have:=qD T f.type;omega
  |cons x xs=>
   cases ys with
   |nil=>cases h4
   |cons y ys=>
    simp only[ot] at h4
    cases he:sU x y with
    |none=>rw[he] at h4;cases h4
    |some r=>
     rw[he] at h4
     simp only at h4
     cases he2:ot xs ys with
     |none=>rw[he2] at h4;cases h4
     |some r2=>
      rw[he2] at h4
      simp only[Option.some.injEq] at h4
      obtain⟨u,us',hu,hus,rfl⟩:=aC.ba.1 h5
      obtain⟨v,vs',hv,hvs,rfl⟩:=aC.ba.1 h6
      simp only[List.map_cons,mY,dE] at h3
      have q1:=qD T f.type
      have q2:=wX x
      have hdig:wY T f.type=ir x:=by omega
      have hcode:mY T (l.map fun f=>(f.offset,f.type))=dE xs:=by omega
      simp only[List.map_cons,List.length_cons,List.range'_succ,List.cons.injEq] at h1
      obtain⟨⟨ds,hds,hrow⟩,heq⟩:=FV hT hu hv hdig he d w
      have hpu:=mq (P:=P) hds hrow (U:=U) (off:=f.offset) (by rw[h1.1];exact h7 0 u rfl) w
      have hpv:=mq (P:=P) hds hrow (U:=V) (off:=f.offset) (by rw[h1.1];exact h8 0 v rfl) w
      have ih:=o9 hT (U:=U) (V:=V) d w l (n+1) xs ys us' vs' r2 h1.2 (fun g hg=>h2 g (List.mem_cons_of_mem _ hg)) hcode he2 hus hvs
       (fun j q hq=>by have:=h7 (j+1) q (by simpa using hq);rwa[Nat.add_assoc,Nat.add_comm 1 j]) (fun j q hq=>by have:=h8 (j+1) q (by simpa using hq);rwa[Nat.add_assoc,Nat.add_comm 1 j])
      simp only[Op.eqFields,if_pos (h2 f (List.mem_cons_self ..)),Sem.run_bind,hpu,hpv,heq,Result.andThen_ok,Sem.run_ite]
      subst h4
      cases r with
      |true=>simpa using ih
      |false=>simp
theorem Cq (hT:aq P T) {t:Nat} {xs ys:List SV} {u v:Value} {b:Bool} (hx:aG c (.agg xs) u) (hy:aG c (.agg ys) v) (hk:eZ T t=5+dE xs) (h:ot xs ys=some b) (w:World):
 ∃ U V,u= .agg U∧v= .agg V∧P.eqGuardType P.depth t=false∧(Op.equalIn 10000 t (.agg U) (.agg V)).run P w= .ok b w:=by
 obtain⟨us,hus,_,rfl,_,_⟩:=hx.eh
 obtain⟨vs,hvs,_,rfl,_,_⟩:=hy.eh
 unfold eZ at hk
 split at hk
 all_goals first
  |omega
  |skip
 rename_i fs _ _ _ hg
 obtain⟨⟨fl,hfl,hfs⟩,hpl⟩:=(hT _ _ hg).1
 obtain⟨⟨p1,p2⟩,fl',hfl',p3,p4⟩:=hpl rfl
 rw[hfl] at hfl'
 cases hfl'
 refine⟨_,_,rfl,rfl,p2,?_⟩
 have hfo:P.fieldsOf t=fl:=by unfold Program.fieldsOf;rw[hfl]
 rw[run_equalIn_struct w 9999 t _ _ (by rw[hfo];exact hfl) p1,hfo]
 exact o9 hT 9998 w fl.toList 0 xs ys us vs b (by rw[p3,List.range_eq_range'];simp) p4 (by rw[hfs];omega) h hus hvs (fun j u hj=>by simpa using hj) (fun j u hj=>by simpa using hj)
theorem CC {op:BinOp} {t yt:Nat} {X Y:Operand} (hT:aq P T) (ho:o.op= .binOp op t X Y yt) {x y:SV} (hx:aG c x (a.eval X)) (hy:aG c y (a.eval Y)) {K:SV→Prop} (h:dH c.H (eZ T t) op x y K):
 ∃ z u,K z∧aG c z u∧(execOp a.eval o).run P c.w= .ok (.value u) c.w:=by
 cases x with
 |int i m=>
  cases y with
  |int j n=>
   simp only[aG] at hx hy
   obtain⟨z,u,h1,h2,h3⟩:=E9 (P:=P) (c:=c) (t:=t) hx.2 h
   exact⟨z,u,h1,h2,bw ho (by rw[hx.1,hy.1];exact h3) (by rw[hx.1];intro _ e;cases e) (by rw[hx.1];intro e;cases e)⟩
  |_=>exact h.elim
 |str s=>
  cases y with
  |str r=>
   simp only[aG] at hx hy
   obtain⟨z,u,h1,h2,h3⟩:=Fa (P:=P) (c:=c) (t:=t) h
   exact⟨z,u,h1,h2,bw ho (by rw[hx.1,hy.1];simp only[binOp];exact h3) (by rw[hx.1];intro _ e;cases e) (by rw[hx.1];intro e;cases e)⟩
  |_=>exact h.elim
 |bool s=>
  cases y with
  |bool r=>
   simp only[aG] at hx hy
   cases op with
   |eql=>
    obtain⟨h1,h2⟩:=h
    exact⟨_,.bool (s==r),h2,bj c _,bw ho (by rw[hx,hy];simp only[binOp,Sem.run_bind,run_equal_bool (rm hT h1),Result.andThen_ok,Sem.run_pure]) (by rw[hx];intro _ e;cases e) (by rw[hx];intro e;cases e)⟩
   |neq=>
    obtain⟨h1,h2⟩:=h
    exact⟨_,.bool (!(s==r)),h2,bj c _,bw ho (by rw[hx,hy];simp only[binOp,Sem.run_bind,run_equal_bool (rm hT h1),Result.andThen_ok,Sem.run_pure]) (by rw[hx];intro _ e;cases e) (by rw[hx];intro e;cases e)⟩
   |_=>exact h.elim
  |_=>exact h.elim
 |nil=>
  cases y with
  |nil=>
   simp only[aG] at hx hy
   cases op with
   |eql=>obtain⟨h1,h2⟩:=h;obtain⟨e,hu⟩:=fk hT h1;exact⟨_,.bool true,h2,bj c _,bw ho (by rw[hx,hy];simp only[binOp,Sem.run_bind,dw hu,Result.andThen_ok,Sem.run_pure];rfl) (by rw[hx];intro _ e;cases e) (by rw[hx];intro e;cases e)⟩
   |neq=>obtain⟨h1,h2⟩:=h;obtain⟨e,hu⟩:=fk hT h1;exact⟨_,.bool false,h2,bj c _,bw ho (by rw[hx,hy];simp only[binOp,Sem.run_bind,dw hu,Result.andThen_ok,Sem.run_pure];rfl) (by rw[hx];intro _ e;cases e) (by rw[hx];intro e;cases e)⟩
   |_=>exact h.elim
  |_=>exact h.elim
 |list sz xs=>
  cases y with
  |nil=>
   simp only[aG] at hx hy
   obtain⟨a0,cap,hx,h5,h6,h7⟩:=hx
   have hn:a0=none→xs=[]:=fun e=>by
    rcases h7 with h7|⟨b,o',vs,h8,_⟩
    ·exact h7
    ·rw[e] at h8;cases h8
   cases op with
   |eql=>
    obtain⟨h1,h2,h3⟩:=h
    obtain⟨e,hu⟩:=fk hT h1
    refine⟨.bool a0.isNone,.bool a0.isNone,?_,bj c _,bw ho (by rw[hx,hy];simp only[binOp,Sem.run_bind,dw hu,Result.andThen_ok,Sem.run_pure]) (by rw[hx];intro _ e;cases e) (by rw[hx];intro e;cases e)⟩
    cases a0 with
    |none=>exact h2 (hn rfl)
    |some _=>exact h3
   |neq=>
    obtain⟨h1,h2,h3⟩:=h
    obtain⟨e,hu⟩:=fk hT h1
    refine⟨.bool (!a0.isNone),.bool (!a0.isNone),?_,bj c _,bw ho (by rw[hx,hy];simp only[binOp,Sem.run_bind,dw hu,Result.andThen_ok,Sem.run_pure]) (by rw[hx];intro _ e;cases e) (by rw[hx];intro e;cases e)⟩
    cases a0 with
    |none=>exact h2 (hn rfl)
    |some _=>exact h3
   |_=>exact h.elim
  |_=>exact h.elim
 |sl id g off n=>
  cases y with
  |nil=>
   simp only[aG] at hy
   have key:∀ q,cL c.H id g=some q→∃ a0 cap,a.eval X= .slice a0 n cap∧(a0=none→n=0):=fun q hq=>by
    have hb:=cz hq
    simp only[aG,hb] at hx
    rcases hx.2 with h2|⟨_,h2,a0,cap,h3,h4,h5,h6⟩
    ·omega
    ·refine⟨a0,cap,h3,fun e=>?_⟩
     rcases h6 with h6|⟨b,o',cs,Ty,fr,h6,h7,_⟩
     ·omega
     ·rw[e] at h7;cases h7
   cases op with
   |eql=>
    obtain⟨q,hq,h1,h2,h3⟩:=h
    obtain⟨a0,cap,hx,hn⟩:=key q hq
    obtain⟨e,hu⟩:=fk hT h1
    refine⟨.bool a0.isNone,.bool a0.isNone,?_,bj c _,bw ho (by rw[hx,hy];simp only[binOp,Sem.run_bind,dw hu,Result.andThen_ok,Sem.run_pure]) (by rw[hx];intro _ e;cases e) (by rw[hx];intro e;cases e)⟩
    cases a0 with
    |none=>exact h2 (hn rfl)
    |some _=>exact h3
   |neq=>
    obtain⟨q,hq,h1,h2,h3⟩:=h
    obtain⟨a0,cap,hx,hn⟩:=key q hq
    obtain⟨e,hu⟩:=fk hT h1
    refine⟨.bool (!a0.isNone),.bool (!a0.isNone),?_,bj c _,bw ho (by rw[hx,hy];simp only[binOp,Sem.run_bind,dw hu,Result.andThen_ok,Sem.run_pure]) (by rw[hx];intro _ e;cases e) (by rw[hx];intro e;cases e)⟩
    cases a0 with
    |none=>exact h2 (hn rfl)
    |some _=>exact h3
   |_=>exact h.elim
  |_=>exact h.elim
 |bu=>
  cases y with
  |bu=>
   simp only[aG] at hx hy
   cases op with
   |eql=>obtain⟨h1,h2⟩:=h;obtain⟨k0,e,hu⟩:=lR hT h1;exact⟨_,.bool true,h2,bj c _,bw ho (by rw[hx,hy];simp only[binOp,Sem.run_bind,fR hu,Result.andThen_ok,Sem.run_pure];rfl) (by rw[hx];intro _ e;cases e) (by rw[hx];intro e;cases e)⟩
   |neq=>obtain⟨h1,h2⟩:=h;obtain⟨k0,e,hu⟩:=lR hT h1;exact⟨_,.bool false,h2,bj c _,bw ho (by rw[hx,hy];simp only[binOp,Sem.run_bind,fR hu,Result.andThen_ok,Sem.run_pure];rfl) (by rw[hx];intro _ e;cases e) (by rw[hx];intro e;cases e)⟩
   |_=>exact h.elim
  |_=>exact h.elim
 |map id=>
  cases y with
  |bu=>
   simp only[aG] at hy
   have key:∀ q,iM c.H id=some q→∃ b,a.eval X= .map (some b):=fun q hq=>by
    unfold iM at hq
    split at hq
    ·rename_i hb
     simp only[aG,hb] at hx
     obtain⟨_,b,_,h⟩:=hx
     exact⟨b,h⟩
    ·cases hq
   cases op with
   |eql=>obtain⟨q,hq,h1,h2⟩:=h;obtain⟨b,hx⟩:=key q hq;obtain⟨k0,e,hu⟩:=lR hT h1;exact⟨_,.bool false,h2,bj c _,bw ho (by rw[hx,hy];simp only[binOp,Sem.run_bind,fR hu,Result.andThen_ok,Sem.run_pure];rfl) (by rw[hx];intro _ e;cases e) (by rw[hx];intro e;cases e)⟩
   |neq=>obtain⟨q,hq,h1,h2⟩:=h;obtain⟨b,hx⟩:=key q hq;obtain⟨k0,e,hu⟩:=lR hT h1;exact⟨_,.bool true,h2,bj c _,bw ho (by rw[hx,hy];simp only[binOp,Sem.run_bind,fR hu,Result.andThen_ok,Sem.run_pure];rfl) (by rw[hx];intro _ e;cases e) (by rw[hx];intro e;cases e)⟩
   |_=>exact h.elim
  |_=>exact h.elim
 |aX=>
  cases y with
  |aX=>
   simp only[aG] at hx hy
   cases op with
   |eql=>obtain⟨h1,h2⟩:=h;obtain⟨e,hu⟩:=gC hT h1;exact⟨_,.bool true,h2,bj c _,bw ho (by rw[hx,hy];simp only[binOp,Sem.run_bind,ep hu,Result.andThen_ok,Sem.run_pure];rfl) (by rw[hx];intro _ e;cases e) (by rw[hx];intro e;cases e)⟩
   |neq=>obtain⟨h1,h2⟩:=h;obtain⟨e,hu⟩:=gC hT h1;exact⟨_,.bool false,h2,bj c _,bw ho (by rw[hx,hy];simp only[binOp,Sem.run_bind,ep hu,Result.andThen_ok,Sem.run_pure];rfl) (by rw[hx];intro _ e;cases e) (by rw[hx];intro e;cases e)⟩
   |_=>exact h.elim
  |_=>exact h.elim
 |kC x0=>
  cases y with
  |aX=>
   simp only[aG] at hx hy
   obtain⟨b,o',u,hx,_⟩:=hx
   cases op with
   |eql=>obtain⟨h1,h2⟩:=h;obtain⟨e,hu⟩:=gC hT h1;exact⟨_,.bool false,h2,bj c _,bw ho (by rw[hx,hy];simp only[binOp,Sem.run_bind,ep hu,Result.andThen_ok,Sem.run_pure];rfl) (by rw[hx];intro _ e;cases e) (by rw[hx];intro e;cases e)⟩
   |neq=>obtain⟨h1,h2⟩:=h;obtain⟨e,hu⟩:=gC hT h1;exact⟨_,.bool true,h2,bj c _,bw ho (by rw[hx,hy];simp only[binOp,Sem.run_bind,ep hu,Result.andThen_ok,Sem.run_pure];rfl) (by rw[hx];intro _ e;cases e) (by rw[hx];intro e;cases e)⟩
   |_=>exact h.elim
  |_=>exact h.elim
 |ptr id g j off=>
  cases y with
  |aX=>
   simp only[aG] at hy
   have key:∀ q,cL c.H id g=some q→∃ p,a.eval X= .pointer (some p):=fun q hq=>by
    obtain⟨_,b,o',_,h3⟩:=hx.lW (cz hq)
    exact⟨_,h3⟩
   cases op with
   |eql=>obtain⟨q,hq,h1,h2⟩:=h;obtain⟨p,hx⟩:=key q hq;obtain⟨e,hu⟩:=gC hT h1;exact⟨_,.bool false,h2,bj c _,bw ho (by rw[hx,hy];simp only[binOp,Sem.run_bind,ep hu,Result.andThen_ok,Sem.run_pure];rfl) (by rw[hx];intro _ e;cases e) (by rw[hx];intro e;cases e)⟩
   |neq=>obtain⟨q,hq,h1,h2⟩:=h;obtain⟨p,hx⟩:=key q hq;obtain⟨e,hu⟩:=gC hT h1;exact⟨_,.bool true,h2,bj c _,bw ho (by rw[hx,hy];simp only[binOp,Sem.run_bind,ep hu,Result.andThen_ok,Sem.run_pure];rfl) (by rw[hx];intro _ e;cases e) (by rw[hx];intro e;cases e)⟩
   |_=>exact h.elim
  |_=>exact h.elim
 |agg xs=>
  cases y with
  |agg ys=>
   cases op with
   |eql=>
    obtain⟨⟨h1,h2⟩,b,h3,h4⟩:=h
    obtain⟨U,V,hU,hV,hg,he⟩:=Cq hT hx hy h1 h3 c.w
    refine⟨_,.bool b,h4,bj c _,?_⟩
    simp only[execOp,ho,hU,hV,Sem.run_bind,run_eqGuard_agg _ _ _ _ _ _ _ hg,Result.andThen_ok,run_eql_struct,he]
    simp
   |neq=>
    obtain⟨⟨h1,h2⟩,b,h3,h4⟩:=h
    obtain⟨U,V,hU,hV,hg,he⟩:=Cq hT hx hy h1 h3 c.w
    refine⟨_,.bool (!b),h4,bj c _,?_⟩
    simp only[execOp,ho,hU,hV,Sem.run_bind,run_eqGuard_agg _ _ _ _ _ _ _ hg,Result.andThen_ok,run_neq_struct,he]
    simp
   |_=>exact h.elim
  |_=>exact h.elim
 |_=>exact h.elim
theorem nQ {op:BinOp} {t:Nat} {x:Operand} {a b:Value} {z:Value} {w:World} (h:∀ cs,a≠ .agg cs):(eqGuard op t x (.const z) a b).run P w= .ok () w:=by
 unfold eqGuard
 cases op<;>simp<;>(split<;>first|rfl|(exact absurd rfl (h _))|simp)
theorem Ds {op:BinOp} {t yt:Nat} {X Y:Operand} (hT:aq P T) (ho:o.op= .binOp op t X Y yt) (hn:mG Y=true) {x:SV} (hx:aG c x (a.eval X)) {K:SV→Prop} (h:qY (tI T t) op x K):
 ∃ z u,K z∧aG c z u∧(execOp a.eval o).run P c.w= .ok (.value u) c.w:=by
 obtain rfl:Y= .const .nilIface:=by
  unfold mG at hn
  split at hn
  ·rfl
  ·cases hn
 have hif:tI T t=true→∃ m,P.underlying t=some (.interface m):=fun hi=>by
  unfold tI at hi
  split at hi
  ·rename_i q;exact(hT _ _ q).1
  ·cases hi
 have hy:a.eval (.const .nilIface)= .nilIface:=rfl
 unfold qY at h
 split at h
 ·rename_i z
  have hv:(z=true∧a.eval X= .nilIface)∨(z=false∧∃ te pe,a.eval X= .iface te pe):=by
   cases z with
   |true=>simp only[aG] at hx;exact .inl ⟨rfl,hx⟩
   |false=>simp only[aG] at hx;exact .inr ⟨rfl,hx⟩
  have hag:∀ cs,a.eval X≠ .agg cs:=fun cs e=>by
   rcases hv with⟨_,q⟩|⟨_,_,_,q⟩<;>(rw[q] at e;cases e)
  have hg:=nQ (P:=P) (op:=op) (t:=t) (x:=X) (b:= .nilIface) (z:= .nilIface) (w:=c.w) hag
  have heq:∀ m,P.underlying t=some (.interface m)→(Op.equal t (a.eval X) .nilIface).run P c.w= .ok z c.w:=fun m hu=>by
   have:∀ d:Nat,(Op.equalIn (d+1) t (a.eval X) .nilIface).run P c.w= .ok z c.w:=fun d=>by
    rcases hv with⟨rfl,q⟩|⟨rfl,_,_,q⟩<;>(rw[q];simp[Op.equalIn,run_underlying hu])
   exact this 9999
  have hb:∀ b':Bool,(binOp op t (a.eval X) .nilIface).run P c.w= .ok (.bool b') c.w→(execOp a.eval o).run P c.w= .ok (.value (.bool b')) c.w:=fun b' hr=>by
   simp only[execOp,ho,hy]
   simp[hg,hr]
  cases op with
  |eql=>
   obtain⟨h1,h2⟩:=h
   obtain⟨m,hu⟩:=hif h1
   refine⟨_,.bool z,h2,bj c _,hb z ?_⟩
   rcases hv with⟨_,q⟩|⟨_,_,_,q⟩<;>(have he:=heq m hu;rw[q] at he ⊢;simp only[binOp,Sem.run_bind,he,Result.andThen_ok,Sem.run_pure])
  |neq=>
   obtain⟨h1,h2⟩:=h
   obtain⟨m,hu⟩:=hif h1
   refine⟨_,.bool (!z),h2,bj c _,hb (!z) ?_⟩
   rcases hv with⟨_,q⟩|⟨_,_,_,q⟩<;>(have he:=heq m hu;rw[q] at he ⊢;simp only[binOp,Sem.run_bind,he,Result.andThen_ok,Sem.run_pure])
  |_=>exact h.elim
 ·exact h.elim
theorem EA {op:BinOp} {t yt:Nat} {x y:Operand} (hT:aq P T) (hi:Inv G nt B c env a) (ho:o.op= .binOp op t x y yt) (h:cH P G T own env c.H o.dst o.type (.binOp op t x y yt) k)
 (hk:∀ x c' u,k x c'.H→aO c'→aG c' x u→Grow c c'→next (a.put o.dst u) c'.w):o.wpIn (FR ρ) 0 P a c.w next Q:=by
 obtain⟨p,h1,q,h2,h3⟩:=h
 obtain⟨z,u,e1,e2,e3⟩:∃ z u,k z c.H∧aG c z u∧(execOp a.eval o).run P c.w= .ok (.value u) c.w:=by
  cases hn:mG y with
  |true=>exact Ds hT ho hn (bP hi h1) (h3.1 hn)
  |false=>exact CC hT ho (bP hi h1) (bP hi h2) (h3.2 hn)
 exact wp_pure hi hk (by rw[ho];intro _ e;cases e) e2 e1 e3
end
end
section
section
variable {P:Program} {G:Gl} {T:aT} {own:List Nat} {nt B:Nat} {c:Cx} {env:List (Nat×SV)} {a:Act} {ρ:Option Nat}
variable {o:Oper} {next:Act→World→Prop} {Q:Exit→Act→World→Prop} {k:SV→List ax→Prop}
theorem gJ (hi:Inv G nt B c env a) {x:Option Operand} {d n:Int} (h:cr G env x d=some n):(x=none∧n=d)∨∃ y i,x=some y∧a.eval y= .int i n:=by
 cases x with
 |none=>simp only[cr,Option.some.injEq] at h;exact .inl ⟨rfl,h.symm⟩
 |some y=>
  simp only[cr] at h
  split at h
  ·rename_i v hv
   obtain⟨i,rfl⟩:=iX h
   have:=bP hi hv
   simp only[aG] at this
   exact .inr ⟨y,i,rfl,this.1⟩
  ·cases h
theorem r8 {HI:Bool} {len cap:Nat} {lo hi:Option Value} {l h:Int} (hlo:(lo=none∧l=0)∨∃ i,lo=some (.int i l)) (hhi:(hi=none∧h=(len:Int))∨∃ i,hi=some (.int i h))
 (h0:0≤l) (h1:l≤h) (h2:h≤(cap:Int)) (w:World):(Instr.sliceBounds HI len cap lo hi none).run P w= .ok (l.toNat,h.toNat,cap) w:=by
 have e1:0≤h∧h≤(cap:Int):=⟨by omega,by omega⟩
 have e2:0≤l∧l≤((h.toNat:Nat):Int):=⟨h0,by omega⟩
 rcases hlo with⟨rfl,rfl⟩|⟨i,rfl⟩<;>rcases hhi with⟨rfl,rfl⟩|⟨j,rfl⟩<;>
  simp[Instr.sliceBounds,Instr.sliceBound,asIntOf,e1,e2]<;>(intro hx;exact absurd hx (by omega))
theorem EE {t:Nat} {x:Operand} {lo hi':Option Operand} (hT:aq P T) (hi:Inv G nt B c env a) (ho:o.op= .slice t x lo hi' none) (h:cH P G T own env c.H o.dst o.type (.slice t x lo hi' none) k)
 (hk:∀ x c' u,k x c'.H→aO c'→aG c' x u→Grow c c'→next (a.put o.dst u) c'.w):o.wpIn (FR ρ) 0 P a c.w next Q:=by
 obtain⟨i,h1,v,h2,n,h3,l,h4,hh,h5,⟨e1,e2,e3⟩,y,h6,h7⟩:=h
 have hv:=bP hi h2
 have hlo:(lo.map a.eval=none∧l=0)∨∃ i,lo.map a.eval=some (.int i l):=by
  rcases gJ hi h4 with⟨rfl,rfl⟩|⟨z,i,rfl,hz⟩
  ·exact .inl ⟨rfl,rfl⟩
  ·exact .inr ⟨i,by simp[hz]⟩
 have hhi:(hi'.map a.eval=none∧hh=(n:Int))∨∃ i,hi'.map a.eval=some (.int i hh):=by
  rcases gJ hi h5 with⟨rfl,rfl⟩|⟨z,i,rfl,hz⟩
  ·exact .inl ⟨rfl,rfl⟩
  ·exact .inr ⟨i,by simp[hz]⟩
 have hd:∀ c,o.op≠ .defer c:=by rw[ho];intro _ e;cases e
 have hti:=hT t i h1
 split at h7
 ·rename_i e0 he
  obtain⟨e,hel,hs,hz,h7⟩:=h7
  obtain⟨hu,hei⟩:=dA hT hel
  obtain⟨info,i1,i2,_⟩:=eu hei
  have hrun:∀ aa len cap,a.eval x= .slice aa len cap→n=len→hh≤(cap:Int)→(execOp a.eval o).run P c.w= .ok (.value (.slice (if cap=l.toNat then aa else aa.map (·.add (l.toNat*e.2.size))) (hh.toNat - l.toNat) (cap - l.toNat))) c.w:=fun aa len cap hx hn hc=>by
   subst hn
   have hb:=r8 (P:=P) (HI:=true) (cap:=cap) hlo hhi e1 e2 hc c.w
   simp[execOp,ho,Instr.sliceAt,run_underlying hu,Instr.slice,hx,hb,sizeOf,typeInfo,i1,i2]
  cases v with
  |nil=>
   simp only[eP,Option.some.injEq] at h3;subst h3
   simp only[qB,Option.some.injEq] at h6;subst h6
   simp only[aG] at hv
   simp only[qo] at e3
   have hl0:l=0:=by omega
   have hh0:hh=0:=by omega
   subst hl0 hh0
   refine wp_pure hi hk hd (u:= .slice none 0 0) (by simp only[aG]) h7 ?_
   simpa using hrun none 0 0 hv rfl (by simp)
  |list sz xs=>
   simp only[eP,Option.some.injEq] at h3;subst h3
   simp only[qB,Option.some.injEq] at h6;subst h6
   simp only[kc,beq_iff_eq] at hz;subst hz
   simp only[aG] at hv
   obtain⟨aa,cap,g1,g2,g3,g4⟩:=hv
   have e3:hh≤(xs.length:Int):=by
    rcases e3 with e3|e3
    ·exact e3
    ·simp only[qo] at e3;omega
   refine wp_pure hi hk hd ?_ h7 (hrun aa _ cap g1 rfl (by omega))
   have hlen:((xs.drop l.toNat).take (hh.toNat - l.toNat)).length=hh.toNat - l.toNat:=by simp;omega
   simp only[aG]
   refine⟨_,cap - l.toNat,by rw[hlen],by rw[hlen];omega,by omega,?_⟩
   by_cases h0:hh.toNat - l.toNat=0
   ·exact .inl (by rw[h0];simp)
   ·rcases g4 with g4|⟨b,o',vs,g4,g5,g6,g7,g8⟩
    ·subst g4;simp at e3;omega
    ·subst g4
     rw[if_neg (by omega)]
     refine .inr ⟨b,o'+l.toNat*e.2.size,(vs.drop l.toNat).take (hh.toNat - l.toNat),by simp[Addr.add_mid],(g5.drop _).take _,fun u hu=>g6 u (List.mem_of_mem_drop (List.mem_of_mem_take hu)),?_,g8⟩
     exact gy (eK g7 (fun u hu=>(g6 u hu).1) _ (by rw[g5.length];omega)) _
  |sl id g off len=>
   simp only[eP,Option.some.injEq] at h3;subst h3
   simp only[qB,Option.some.injEq] at h6;subst h6
   simp only[kc] at hz
   split at hz
   ·rename_i sz vals hb
    simp only[beq_iff_eq] at hz;subst hz
    have hb':=cz hb
    simp only[aG,hb'] at hv
    rcases hv.2 with hv|⟨_,q1,aa,cap,q2,q3,q4,q5⟩
    ·omega
    have hcut:hh≤(cap:Int)∧off+hh.toNat≤vals.length:=by
     rcases e3 with e3|e3
     ·exact⟨by omega,by omega⟩
     ·simp only[qo,hb] at e3
      split at e3
      ·exact⟨by omega,by omega⟩
      ·rename_i hs0
       refine⟨?_,by omega⟩
       by_cases hh0:hh≤0
       ·omega
       rcases q5 with q5|⟨b,o',cs,Ty,fr,q5,q6,q7,q8⟩
       ·omega
       ·rcases hi.heap.ee id _ hb' with⟨h10,_⟩|⟨b',o2,cs2,Ty2,fr2,us,h10,h11,h12,h13,h14,h15⟩
        ·rw[q5] at h10;cases h10
        ·rw[q5] at h10;cases h10
         rw[q7] at h11;cases h11
         have hus:us.length=vals.length:=h13.length
         have hsz:=eL q7 h15 (by rw[aW (fun u h=>(h14 u h).1),hus];exact Nat.mul_pos (by omega) (by omega))
         rw[aW (fun u h=>(h14 u h).1),hus] at hsz
         have:vals.length*e.2.size≤(off+cap)*e.2.size:=by omega
         have:=Nat.le_of_mul_le_mul_right this (by omega)
         omega
    refine wp_pure hi hk hd ?_ h7 (hrun aa len cap q2 rfl hcut.1)
    simp only[aG,hb']
    refine⟨rfl,.inr ⟨trivial,by omega,_,cap - l.toNat,rfl,by omega,by omega,?_⟩⟩
    by_cases hc0:cap - l.toNat=0
    ·refine .inl ⟨hc0,?_⟩
     rcases Nat.eq_zero_or_pos e.2.size with hs0|hs0
     ·exact .inl hs0
     right
     rcases q5 with q5|⟨b,o',cs,Ty,fr,q5,q6,q7,q8⟩
     ·omega
     ·rcases hi.heap.ee id _ hb' with⟨h10,hvn⟩|⟨b',o2,cs2,Ty2,fr2,us,h10,h11,h12,h13,h14,h15⟩
      ·rw[hvn];exact Nat.zero_le _
      ·rw[q5] at h10;cases h10
       rw[q7] at h11;cases h11
       by_cases hv0:vals.length=0
       ·omega
       have hus:us.length=vals.length:=h13.length
       have hsz:=eL q7 h15 (by rw[aW (fun u h=>(h14 u h).1),hus];exact Nat.mul_pos (by omega) hs0)
       rw[aW (fun u h=>(h14 u h).1),hus] at hsz
       have:vals.length*e.2.size≤(off+cap)*e.2.size:=by omega
       have:=Nat.le_of_mul_le_mul_right this hs0
       omega
    ·rcases q5 with q5|⟨b,o',cs,Ty,fr,q5,q6,q7,q8⟩
     ·omega
     ·rw[if_neg (by omega)]
      subst q6
      refine .inr ⟨b,o',cs,Ty,fr,q5,by simp[Addr.add_mid,Nat.add_mul,Nat.add_assoc],q7,?_⟩
      rw[← q8]
      congr 2
      omega
   ·cases hz
  |_=>simp[dJ] at hs
 ·rename_i he
  have hu:P.underlying t=some .string:=by have:=hti.1;rw[he] at this;exact this
  cases v with
  |str s=>
   simp only[eP,Option.some.injEq] at h3;subst h3
   simp only[qB,Option.some.injEq] at h6;subst h6
   simp only[aG] at hv
   have e3:hh≤(s.length:Int):=by
    rcases e3 with e3|e3
    ·exact e3
    ·simp only[qo] at e3;omega
   have hb:=r8 (P:=P) (HI:=false) (cap:=s.length) hlo hhi e1 e2 e3 c.w
   refine wp_pure (u:= .string ⟨⟨(s.drop l.toNat).take (hh.toNat - l.toNat)⟩⟩) hi hk hd (by simp only[aG];exact⟨trivial,by simp;omega⟩) h7 ?_
   have hsz:(ByteArray.mk ⟨s⟩).size=s.length:=rfl
   have hex:(ByteArray.mk ⟨s⟩).extract l.toNat hh.toNat=⟨⟨(s.drop l.toNat).take (hh.toNat - l.toNat)⟩⟩:=by
    apply ByteArray.ext
    simp[List.extract_eq_take_drop]
   simp[execOp,ho,Instr.sliceAt,run_underlying hu,Instr.slice,hv.1,hsz,hb,hex]
  |_=>exact h7.elim
 ·exact h7.elim
theorem vj (hT:aq P T) {e:Nat} (h:xx T e=true):P.underlying e=some (.int .u8):=by
 unfold xx at h
 split at h
 ·rename_i i hi
  have:=(hT _ _ hi).1
  split at h
  ·rename_i hd;rw[hd] at this;exact this
  ·cases h
 ·cases h
theorem zJ (hT:aq P T) {st:Nat} {si:TI} (h0:T.get st=some si) (h:lZ T si.d=true):∃ e,P.underlying st=some (.slice e)∧P.underlying e=some (.int .u8):=by
 unfold lZ at h
 have:=(hT _ _ h0).1
 split at h
 ·rename_i e hd
  rw[hd] at this
  exact⟨e,this,vj hT h⟩
 ·cases h
theorem om (w:World) (e:TypeId) (s:ByteArray):Lib.bytesWorld w e s=w.drew.alloc (.cells (Lib.bytesCells w e s) e ((Lib.bytesCells w e s).size,(Lib.bytesCells w e s).size+1)):=by
 unfold Lib.bytesWorld World.freeze
 rw[if_neg (by omega)]
 have:∀ (A:Array Obj) (x:Obj) (f:Obj→Obj),(A.push x).modify A.size f=A.push (f x):=by
  intro A x f
  apply Array.ext
  ·simp
  ·intro i h1 h2
   simp only[Array.size_modify,Array.size_push] at h1
   rw[Array.getElem_modify]
   rcases Nat.lt_or_ge i A.size with h|h
   ·rw[if_neg (by omega),Array.getElem_push_lt h,Array.getElem_push_lt h]
   ·have:i=A.size:=by omega
    subst this
    simp
 show({ w.drew.alloc (.cells (Lib.bytesCells w e s) e) with heap:=_}:World)=_
 simp only[World.alloc]
 congr 1
 exact this _ _ _
theorem eg {α:Type} {l:List α} {i:Nat} {x:α} (h:l[i]? =some x):l.set i x=l:=by
 apply List.ext_getElem?
 intro j
 rw[List.getElem?_set]
 split
 ·rename_i e
  subst e
  have:=(List.getElem?_eq_some_iff.1 h).1
  simp[this]
  exact((List.getElem?_eq_some_iff.1 h).2).symm
 ·rfl
theorem zk {w:World} {b:Nat} {cs:Array Value} {T:TypeId} {fr:Nat×Nat} (h:w.heap[b]? =some (.cells cs T fr)) (hf:fy cs fr):∃ fr',fy cs fr'∧(w.freeze ⟨b,cs.size,none⟩ 1).heap[b]? =some (.cells cs T fr')∧
 (∀ k,k≠b→(w.freeze ⟨b,cs.size,none⟩ 1).heap[k]? =w.heap[k]?)∧(w.freeze ⟨b,cs.size,none⟩ 1).heap.size=w.heap.size∧(w.freeze ⟨b,cs.size,none⟩ 1).os=w.os∧(w.freeze ⟨b,cs.size,none⟩ 1).tape=w.tape∧(w.freeze ⟨b,cs.size,none⟩ 1).output=w.output:=by
 refine⟨if fr.1==fr.2 then (cs.size,cs.size+1) else (min fr.1 cs.size,max fr.2 (cs.size+1)),?_,?_,?_,?_,?_,?_,?_⟩
 ·right
  split
  ·exact Nat.le_refl _
  ·rename_i e
   rcases hf with hf|hf
   ·simp[hf] at e
   ·simp only;omega
 ·simp[World.freeze,Array.getElem?_modify,h]
 ·intro k hk
  simp[World.freeze,Array.getElem?_modify,Ne.symm hk]
 all_goals simp[World.freeze]
theorem s4 (c:Cx) (s:List UInt8):∃ vs,aC c (dC s) vs∧(∀ u∈vs,u.cells.size=1∧ct u)∧cellsOf vs=s.map fun b=>Value.int .u8 b.toNat:=by
 refine⟨s.map fun b=> .int .u8 b.toNat,?_,?_,?_⟩
 ·induction s with
  |nil=>exact aC.bX
  |cons b s ih=>
   refine aC.bB ?_ ih
   simp only[aG,IntKind.min,IntKind.max,IntKind.signed,IntKind.bits]
   have:=b.toNat_lt
   refine⟨trivial,?_,?_⟩<;>simp<;>omega
 ·intro u hu
  simp only[List.mem_map] at hu
  obtain⟨b,_,rfl⟩:=hu
  exact⟨rfl,fm rfl⟩
 ·have:∀ l:List UInt8,l.map (fun b=>Value.int .u8 b.toNat)=l.flatMap fun b=>[Value.int .u8 b.toNat]:=by intro l;induction l<;>simp_all
  simp only[cellsOf,List.flatMap_map]
  exact(this s).symm
theorem sC (c:Cx):∀ {xs:List SV} {s:List UInt8} {vs:List Value},strOf xs=some s→aC c xs vs→∃ ns:List Int,vs=ns.map (Value.int .u8)∧s=(ns.map fun n=>UInt8.ofNat n.toNat)∧cellsOf vs=vs∧ns.length=xs.length
 |[],s,vs,h,hr=>by
  simp only[aC] at hr
  subst hr
  cases h
  exact⟨[],rfl,rfl,rfl,rfl⟩
 |x::xs,s,vs,h,hr=>by
  simp only[aC] at hr
  obtain⟨u,us,h1,h2,rfl⟩:=hr
  unfold strOf at h
  split at h
  ·rename_i q;cases q
  ·rename_i n r q
   cases q
   split at h
   ·rename_i s' hs'
    cases h
    obtain⟨ns,e1,e2,e3,e4⟩:=sC c hs' h2
    simp only[aG] at h1
    refine⟨n::ns,by rw[h1.1,e1];rfl,by rw[e2];rfl,?_,by simp[e4]⟩
    have:cellsOf (u::us)=u.cells.toList++cellsOf us:=by simp[cellsOf]
    rw[this,e3,h1.1]
    rfl
   ·cases h
  ·cases h
theorem zU {st dt:Nat} {x:Operand} (hT:aq P T) (hi:Inv G nt B c env a) (ho:o.op= .convert st dt x) (h:cH P G T own env c.H o.dst o.type (.convert st dt x) k)
 (hk:∀ x c' u,k x c'.H→aO c'→aG c' x u→Grow c c'→next (a.put o.dst u) c'.w):o.wpIn (FR ρ) 0 P a c.w next Q:=by
 obtain⟨si,h0,i,h1,v,h2,h3⟩:=h
 have hv:=bP hi h2
 have hd:∀ c,o.op≠ .defer c:=by rw[ho];intro _ e;cases e
 have hst:∃ sd,P.underlying st=some sd:=by
  have:=(hT _ _ h0).1
  cases hsd:si.d<;>rw[hsd] at this<;>first|exact⟨_,this⟩|(obtain⟨⟨fl,hu,_⟩,_⟩:=this;exact⟨_,hu⟩)|(obtain⟨m,hu⟩:=this;exact⟨_,hu⟩)|(obtain⟨p,q,r,hu⟩:=this;exact⟨_,hu⟩)
 obtain⟨sd,hsd⟩:=hst
 have hti:=(hT _ _ h1).1
 split at h3
 ·rename_i j i' n he
  rw[he] at hti
  have hu:P.underlying dt=some (.int j):=hti
  simp only[aG] at hv
  refine wp_pure hi hk hd (fa c j n) h3 ?_
  simp[execOp,ho,convert,run_underlying hsd,run_underlying hu,hv.1,Conv.intToInt]
 ·rename_i s he
  rw[he] at hti
  have hu:P.underlying dt=some .string:=hti
  have hv':=hv
  simp only[aG] at hv
  refine wp_pure hi hk hd hv' h3 ?_
  simp[execOp,ho,convert,run_underlying hsd,run_underlying hu,hv.1]
 ·rename_i e id g off len he
  rw[he] at hti
  have hu:P.underlying dt=some (.slice e):=hti
  obtain⟨⟨h4,rfl,hlen⟩,⟨sz,vals⟩,hb,h5,h6⟩:=h3
  have h8:=vj hT h4
  have hb':=cz hb
  have hv0:=hv
  simp only[aG,hb'] at hv
  obtain⟨hone,hv|⟨_,hv1,al,cap,hv2,hv3,hv4,hv5⟩⟩:=hv
  ·omega
  rcases hv5 with⟨hv5,_⟩|⟨b,o',cs,Ty,fr,hv5,rfl,hv6,hv7⟩
  ·omega
  rcases hi.heap.ee id _ hb' with⟨h9,_⟩|⟨b2,o2,cs2,Ty2,fr2,vs,h9,h10,h11,h12,h13,h14⟩
  ·rw[hv5] at h9;cases h9
  rw[hv5] at h9;cases h9
  rw[hv6] at h10;cases h10
  obtain⟨fr',q1,q2,q3,q4,q5,q6,q7⟩:=zk hv6 h11
  obtain⟨t1,t2⟩:=Cx.pF hi.heap (w':=c.w.freeze ⟨b,cs.size,none⟩ 1) hb' rfl (B':= .cells g sz vals) (c.θ id)
   ⟨g,vals,rfl,Nat.le_refl _,fun _=>⟨rfl,rfl⟩,fun b' o' h'=> .inr ⟨o',h'⟩⟩ (fun k' hk' hno=>q3 k' (fun e=>hno o' (by rw[hv5,e]))) (by rw[q4];exact Nat.le_refl _) q5 q6 q7
   (fun b' cs' T' fr0 hq=>by
    by_cases e:b'=b
    ·subst e
     rw[hv6] at hq;cases hq
     exact⟨cs,fr',q2,rfl⟩
    ·exact⟨cs',fr0,by rw[q3 b' e];exact hq,rfl⟩)
   (fun hg=> .inr ⟨b,o',cs,Ty,fr',vs,by simp[hv5],q2,q1,h12.grow hg,h13,fun j v hj=>by
    have:=h14 j v hj
    rw[im hv6] at this
    rw[im q2];exact this⟩)
  have e1:(c.H.set id (.cells g sz vals))=c.H:=eg hb'
  have e2:(fun i=>if i=id then c.θ id else c.θ i)=c.θ:=by
   funext i;split
   ·rename_i e;rw[e]
   ·rfl
  rw[e1,e2] at t1 t2
  have hsh:c.w.shape? b=some (Ty,cs.size):=by unfold World.shape?;rw[hv6]
  refine ez (u:=a.eval x) hd ?_ (hk _ { θ:=c.θ,H:=c.H,w:=c.w.freeze ⟨b,cs.size,none⟩ 1} _ h6 t2 (hv0.grow t1) t1)
  simp[execOp,ho,hv2,convert,run_underlying hu,run_underlying h8,markStringish,hsh]
 ·rename_i e s he
  rw[he] at hti
  have hu:P.underlying dt=some (.slice e):=hti
  obtain⟨h4,h5⟩:=h3
  have h8:=vj hT h4
  simp only[aG] at hv
  have hsz:(ByteArray.mk ⟨s⟩).size=s.length:=rfl
  have hrun:=Lib.run_convert_string_bytes (P:=P) c.w st dt e ⟨⟨s⟩⟩ hsd hu h8
  rw[om] at hrun
  obtain⟨vs,q1,q2,q3⟩:=s4 c s
  have hle:=grownCap_ge c.w s.length 0 e
  have hcl:(Lib.bytesCells c.w e ⟨⟨s⟩⟩).size=grownCap c.w s.length 0 e:=by
   simp only[Lib.bytesCells,Array.size_append,Array.size_map,Array.size_replicate,hsz]
   show s.length+_=_
   omega
  obtain⟨g1,g2⟩:=gE hi.heap (sz:=1) q1 q2 (Lib.bytesCells c.w e ⟨⟨s⟩⟩) (List.replicate (grownCap c.w s.length 0 e - s.length) (.int .u8 0)) (by
   rw[q3];simp[Lib.bytesCells,hsz]) e ((Lib.bytesCells c.w e ⟨⟨s⟩⟩).size,(Lib.bytesCells c.w e ⟨⟨s⟩⟩).size+1) (.inr (Nat.le_refl _)) (w0:=c.w.drew) rfl rfl rfl rfl
  have hln:(dC s).length=s.length:=by simp[dC]
  refine ez (u:= .slice (some ⟨c.w.heap.size,0,none⟩) s.length (grownCap c.w s.length 0 e)) hd (by simp only[execOp,ho,hv.1];rw[show(⟨⟨s⟩⟩:ByteArray).size=s.length from rfl] at hrun;simp[hrun]) (hk _ _ _ h5 g2 ?_ g1)
  have:=fK c 1 (dC s) (some (c.w.heap.size,0)) (c.w.drew.alloc (.cells (Lib.bytesCells c.w e ⟨⟨s⟩⟩) e ((Lib.bytesCells c.w e ⟨⟨s⟩⟩).size,(Lib.bytesCells c.w e ⟨⟨s⟩⟩).size+1))) (a:=some ⟨c.w.heap.size,0,none⟩) (cap:=grownCap c.w s.length 0 e) (by omega) (grownCap_le_maxLen c.w s.length 0 e hv.2) (.inr ⟨c.w.heap.size,_,e,_,rfl,rfl,heap_alloc_new c.w.drew _,by rw[hcl,Nat.mul_one]⟩)
  rwa[hln] at this
 ·rename_i he hne
  rw[he] at hti
  have hu:P.underlying dt=some .string:=hti
  obtain⟨⟨h4,h5⟩,xs,h6,s,h7,h8⟩:=h3
  obtain⟨e,he',h9⟩:=zJ hT h0 h4
  obtain⟨al,cap,vs,r1,r2,r3,r4,r5,r6⟩:=zG hi.heap hv h6 h5
  obtain⟨ns,n1,n2,n3,n4⟩:=sC c h7 r4
  have hlen:ns.length=xs.length:=n4
  have hs:s=ns.map fun n=>UInt8.ofNat n.toNat:=n2
  refine wp_pure (u:= .string ⟨⟨s⟩⟩) hi hk hd (by simp only[aG];exact⟨trivial,by rw[hs,List.length_map];omega⟩) h8 ?_
  simp only[execOp,ho]
  rw[r1]
  have key:(convert st dt (.slice al xs.length cap)).run P c.w= .ok (.string ⟨⟨s⟩⟩) c.w:=by
   rcases r6 with rfl|⟨b,off,rfl,r7⟩
   ·have:ns=[]:=List.length_eq_zero_iff.1 hlen
    subst this
    rw[hs]
    rw[run_convert_bytes_string c.w st dt e _ _ cap he' h9 hu]
    cases al with
    |none=>simp[Conv.bytesToString,ByteArray.empty,ByteArray.emptyWithCapacity]<;>rfl
    |some al=>simp[Conv.bytesToString,loadCells,ByteArray.empty,ByteArray.emptyWithCapacity]<;>rfl
   ·rw[run_convert_bytes_arg (P:=P) c.w st e he' h9 b off xs.length cap ns hlen (fun i hil=>?_) dt hu]
    ·rw[hs];rfl
    ·have hil':i<ns.length:=by omega
     have:=r7 i (.int .u8 (ns[i])) (by rw[n3,n1];simp[hil'])
     rw[this];simp[List.getD,hil']
  simp[key]
 ·exact h3.elim
end
end
section
section
variable {P:Program} {G:Gl} {T:aT} {own:List Nat} {nt B:Nat} {c:Cx} {env:List (Nat×SV)} {a:Act} {ρ:Option Nat}
variable {o:Oper} {next:Act→World→Prop} {Q:Exit→Act→World→Prop} {k:SV→List ax→Prop}
def mH:Option IntKind→TypeDesc
 |some k=> .int k
 |none=> .string
theorem tJ {kd:Option IntKind} {x:SV} {v:Value} (h:eB kd x=true) (hr:aG c x v):MapKept.IsKey (mH kd) v∧v.oneCell'=true:=by
 cases kd with
 |some k=>cases x with
  |int i n=>simp only[eB,decide_eq_true_eq] at h;subst h;simp only[aG] at hr;rw[hr.1];exact⟨rfl,rfl⟩
  |_=>cases h
 |none=>cases x with
  |str s=>simp only[aG] at hr;rw[hr.1];exact⟨trivial,rfl⟩
  |_=>cases h
theorem Bv {kd:Option IntKind} {x y:SV} {u v:Value} (hx:eB kd x=true) (hy:eB kd y=true) (hu:aG c x u) (hv:aG c y v):Instr.sameNow (mH kd) u v=some (SV.dX x y)∧(SV.dX x y=true→u=v):=by
 cases kd with
 |some k=>cases x with
  |int i n=>cases y with
   |int j m=>
    simp only[eB,decide_eq_true_eq] at hx hy
    subst hx;subst hy
    simp only[aG] at hu hv
    rw[hu.1,hv.1]
    exact⟨by simp[mH,Instr.sameNow,SV.dX],fun h=>by simp only[SV.dX,beq_iff_eq] at h;rw[h]⟩
   |_=>cases hy
  |_=>cases hx
 |none=>cases x with
  |str s=>cases y with
   |str r=>
    simp only[aG] at hu hv
    rw[hu.1,hv.1]
    refine⟨?_,fun h=>by simp only[SV.dX,beq_iff_eq] at h;rw[h]⟩
    simp only[mH,Instr.sameNow,SV.dX,Option.some.injEq]
    by_cases e:s=r
    ·subst e;rw[(MapKept.bytes_beq _ _).2 rfl];simp
    ·have h1:((ByteArray.mk ⟨s⟩:ByteArray)==ByteArray.mk ⟨r⟩)=false:=by
      cases hb:((ByteArray.mk ⟨s⟩:ByteArray)==ByteArray.mk ⟨r⟩) with
      |false=>rfl
      |true=>exact absurd ((MapKept.bytes_beq _ _).1 hb) (fun h=>e (by cases h;rfl))
     rw[h1];simp[e]
   |_=>cases hy
  |_=>cases hx
theorem ve {kd:Option IntKind} {kx y:SV} {kv uy:Value} (hkx:eB kd kx=true) (hkv:aG c kx kv) (hy:aG c y uy):∀ {es:List (SV×SV)} {ents:List MapEntry},ck c es ents→(∀ p∈es,eB kd p.1=true)→∀ j:Nat,
 (Instr.findNow (mH kd) kv ents j=some none∧bI es kx=none∧cG es kx y=es++[(kx,y)])∨
 (∃ n e x,Instr.findNow (mH kd) kv ents j=some (some (j+n,e.val))∧ents[n]? =some e∧e.key=kv∧bI es kx=some x∧aG c x e.val∧ck c (cG es kx y) (ents.set n { e with key:=kv,val:=uy}))
 |[],ents,h,_,j=>by simp only[ck] at h;subst h;exact .inl ⟨rfl,rfl,rfl⟩
 |(q,x)::es,ents,h,hk,j=>by
  simp only[ck] at h
  obtain⟨e,es',h1,h2,h3,rfl⟩:=h
  have hq:=hk _ (List.mem_cons_self ..)
  obtain⟨k1,k2⟩:=Bv hkx hq hkv h1
  cases hb:SV.dX kx q with
  |true=>
   refine .inr ⟨0,e,x,by simp[Instr.findNow,k1,hb],rfl,(k2 hb).symm,by simp[bI,hb],h2,?_⟩
   simp only[cG,hb,if_true,List.set_cons_zero,ck]
   exact⟨_,es',hkv,hy,h3,rfl⟩
  |false=>
   rcases ve hkx hkv hy h3 (fun p hp=>hk p (List.mem_cons_of_mem _ hp)) (j+1) with⟨a1,a2,a3⟩|⟨n,e',x',a1,a2,a3,a4,a5,a6⟩
   ·exact .inl ⟨by simp[Instr.findNow,k1,hb,a1],by simp[bI,hb,a2],by simp[cG,hb,a3]⟩
   ·refine .inr ⟨n+1,e',x',by simp[Instr.findNow,k1,hb,a1];omega,by simpa using a2,a3,by simp[bI,hb,a4],a5,?_⟩
    simp only[cG,hb,Bool.false_eq_true,if_false,List.set_cons_succ,ck]
    exact⟨e,_,h1,h2,a6,rfl⟩
theorem mj {t:Nat} {p:Option IntKind×TI} (hT:aq P T) (h:dB T t=some p):∃ kt et,P.underlying t=some (.map kt et)∧aL P et p.2∧P.underlying kt=some (mH p.1):=by
 obtain⟨kt,et,h1,h2,h3⟩:=sX hT h
 refine⟨kt,et,h1,h2,?_⟩
 obtain⟨p1,p2⟩:=p
 cases p1<;>exact h3
theorem ck.zip {c:Cx}:∀ {ks vs:List SV} {l:List MapEntry},aC c ks (l.map (·.key))→aC c vs (l.map (·.val))→ck c (ks.zip vs) l
 |[],vs,l,h,_=>by
  have h1:=h.length
  have:l=[]:=by cases l with
   |nil=>rfl
   |cons e l=>simp at h1
  subst this
  simp[ck]
 |x::ks,[],l,h,h'=>by
  have h1:=h.length
  have h2:=h'.length
  simp only[List.length_map,List.length_cons,List.length_nil] at h1 h2
  omega
 |x::ks,y::vs,[],h,_=>by
  have h1:=h.length
  simp at h1
 |x::ks,y::vs,e::l,h,h'=>by
  obtain⟨u,us,a1,a2,a3⟩:=aC.ba.1 h
  obtain⟨u',us',b1,b2,b3⟩:=aC.ba.1 h'
  simp only[List.map_cons,List.cons.injEq] at a3 b3
  obtain⟨rfl,rfl⟩:=a3
  obtain⟨rfl,rfl⟩:=b3
  simp only[List.zip_cons_cons,ck]
  exact⟨e,l,a1,b1,ck.zip a2 b2,rfl⟩
theorem rB (hc:aO c) {kd:Option IntKind} {m:SV} {v:Value} (hm:aG c m v) {es:List (SV×SV)} (h:mapOf c.H kd m=some es):
 (v= .map none∧es=[])∨(∃ id b ents clk,m= .map id∧c.H[id]? =some (.map kd es)∧c.θ id=some (b,0)∧v= .map (some b)∧c.w.heap[b]? =some (.map ents clk)∧ck c es ents.toList∧(∀ p∈es,eB kd p.1=true)∧qk ents.toList clk)∨
 ((∀ id,m≠ .map id)∧∃ b ents clk,v= .map (some b)∧c.w.heap[b]? =some (.map ents clk)∧ck c es ents.toList∧(∀ p∈es,eB kd p.1=true)):=by
 cases m with
 |bu=>simp only[mapOf,Option.some.injEq] at h;simp only[aG] at hm;exact .inl ⟨hm,h.symm⟩
 |map id=>
  simp only[mapOf] at h
  split at h
  ·rename_i kd' es' hb
   split at h
   ·rename_i e;subst e;cases h
    simp only[aG,hb] at hm
    obtain⟨_,b,h1,h2⟩:=hm
    obtain⟨b',ents,clk,h3,h4,h5,h6,h7⟩:=hc.ee id _ hb
    rw[h1] at h3;cases h3
    exact .inr (.inl ⟨id,b,ents,clk,rfl,hb,h1,h2,h4,h5,h6,h7⟩)
   ·cases h
  ·cases h
 |fe b clk born kd' ks vs=>
  simp only[mapOf] at h
  split at h
  ·rename_i e;subst e;cases h
   simp only[aG] at hm
   obtain⟨h0,h1,ents,h2,h3,h4,h5,h6,h7⟩:=hm
   exact .inr (.inr ⟨(fun id e=>by cases e),b,ents,clk,h0,h2,ck.zip h5 h6,(fun p hp=>h7 p.1 (List.of_mem_zip (a:=p.1) (b:=p.2) hp).1)⟩)
  ·cases h
 |_=>simp[mapOf] at h
theorem Cc {t:Nat} {x y:Operand} {ok:Bool} (hT:aq P T) (hi:Inv G nt B c env a) (ho:o.op= .lookup t x y ok) (h:cH P G T own env c.H o.dst o.type (.lookup t x y ok) k)
 (hk:∀ x c' u,k x c'.H→aO c'→aG c' x u→Grow c c'→next (a.put o.dst u) c'.w):o.wpIn (FR ρ) 0 P a c.w next Q:=by
 obtain⟨p,h1,m,h2,es,h3,kx,h4,h5,h6⟩:=h
 obtain⟨kt,et,u1,u2,u3⟩:=mj hT h1
 have hkey:=bP hi h4
 obtain⟨k1,_⟩:=tJ h5 hkey
 obtain⟨_,info,z,i1,i2,i3,i4,i5,i6⟩:=u2
 have hz:=(i5 c).1
 have hzero:∀ w,(zeroValue et).run P w= .ok z w:=fun w=>by simp[zeroValue,typeInfo,i1,i4]
 have hd:∀ c,o.op≠ .defer c:=by rw[ho];intro _ e;cases e
 have fin:∀ (x:SV) (u:Value) (b:Bool),aG c x u→(bI es kx).getD p.2.zero=x→(bI es kx).isSome=b→
  (execOp a.eval o).run P c.w= .ok (.value (if ok then .tuple #[u,.bool b] else u)) c.w→o.wpIn (FR ρ) 0 P a c.w next Q:=fun x u b e1 e2 e3 e4=>by
  rw[e2,e3] at h6
  refine wp_pure hi hk hd ?_ h6 e4
  cases ok with
  |true=>simp only[if_true,aG];exact⟨[u,.bool b],aC.bB e1 (aC.bB (bj c b) aC.bX),rfl⟩
  |false=>exact e1
 have hfnd:∀ b ents clk,a.eval x= .map (some b)→c.w.heap[b]? =some (.map ents clk)→ck c es ents.toList→(∀ q∈es,eB p.1 q.1=true)→o.wpIn (FR ρ) 0 P a c.w next Q:=fun b ents clk e3 e4 e5 e6=>by
  rcases ve h5 hkey aG.undef e5 e6 0 with⟨a1,a2,_⟩|⟨n,e,x',a1,a2,a3,a4,a5,_⟩
  ·refine fin p.2.zero z false hz (by rw[a2];rfl) (by rw[a2];rfl) ?_
   cases ok<;>simp[execOp,ho,Instr.lookup,run_underlying u1,e3,MapKept.run_getObj_map e4,MapKept.run_checkKey u3 k1,MapKept.run_findKey u3 a1,hzero]
  ·refine fin x' e.val true a5 (by rw[a4];rfl) (by rw[a4];rfl) ?_
   cases ok<;>simp[execOp,ho,Instr.lookup,run_underlying u1,e3,MapKept.run_getObj_map e4,MapKept.run_checkKey u3 k1,MapKept.run_findKey u3 a1,hzero]
 rcases rB hi.heap (bP hi h2) h3 with⟨e1,rfl⟩|⟨id,b,ents,clk,rfl,e1,e2,e3,e4,e5,e6,e7⟩|⟨_,b,ents,clk,e3,e4,e5,e6⟩
 ·refine fin p.2.zero z false hz rfl rfl ?_
  have hf:(Instr.findKey kt (a.eval y) []).run P c.w= .ok none c.w:=MapKept.run_findKey u3 rfl
  cases ok<;>simp[execOp,ho,Instr.lookup,run_underlying u1,e1,MapKept.run_checkKey u3 k1,hf,hzero]
 ·exact hfnd b ents clk e3 e4 e5 e6
 ·exact hfnd b ents clk e3 e4 e5 e6
theorem ck.snoc {x y:SV} {e:MapEntry} (h1:aG c x e.key) (h2:aG c y e.val):∀ {es:List (SV×SV)} {ents:List MapEntry},ck c es ents→ck c (es++[(x,y)]) (ents++[e])
 |[],ents,h=>by simp only[ck] at h;subst h;simp only[List.nil_append,ck];exact⟨e,[],h1,h2,rfl,rfl⟩
 |(q,z)::es,ents,h=>by
  simp only[ck] at h
  obtain⟨e',es',a1,a2,a3,rfl⟩:=h
  simp only[List.cons_append,ck]
  exact⟨e',_,a1,a2,ck.snoc h1 h2 a3,rfl⟩
theorem sq {kd:Option IntKind} {kx y:SV} (hk:eB kd kx=true):∀ {es:List (SV×SV)},(∀ p∈es,eB kd p.1=true)→∀ p∈cG es kx y,eB kd p.1=true
 |[],_,p,hp=>by simp only[cG,List.mem_singleton] at hp;subst hp;exact hk
 |(q,z)::es,h,p,hp=>by
  simp only[cG] at hp
  split at hp
  ·rcases List.mem_cons.1 hp with rfl|hp
   ·exact hk
   ·exact h p (List.mem_cons_of_mem _ hp)
  ·rcases List.mem_cons.1 hp with rfl|hp
   ·exact h _ (List.mem_cons_self ..)
   ·exact sq hk (fun p hp=>h p (List.mem_cons_of_mem _ hp)) p hp
theorem n9 {t:Nat} {x y z:Operand} (hT:aq P T) (hi:Inv G nt B c env a) (ho:o.op= .mapUpdate t x y z∨o.op= .insert t x y z) (h:cH P G T own env c.H o.dst o.type (.mapUpdate t x y z) k)
 (hk:∀ x c' u,k x c'.H→aO c'→aG c' x u→Grow c c'→next (a.put o.dst u) c'.w):o.wpIn (FR ρ) 0 P a c.w next Q:=by
 obtain⟨p,h1,m,h2,h3⟩:=h
 obtain⟨kt,et,u1,u2,u3⟩:=mj hT h1
 have hd:∀ c,o.op≠ .defer c:=by rcases ho with ho|ho<;>(rw[ho];intro _ e;cases e)
 cases m with
 |map id0=>
  obtain⟨es,h3,kx,h4,v,h5,h6,h7⟩:=h3
  have hkey:=bP hi h4
  have hval:=bP hi h5
  obtain⟨k1,_⟩:=tJ h6 hkey
  rcases rB hi.heap (bP hi h2) h3 with⟨e1,rfl⟩|⟨id,b,ents,clk,e0,e1,e2,e3,e4,e5,e6,e7⟩|⟨e0,_⟩
  ·have:=bP hi h2
   simp only[mapOf] at h3
   split at h3
   ·rename_i kd' es' hb
    simp only[aG,hb] at this
    obtain⟨_,b,_,hb2⟩:=this
    rw[e1] at hb2;cases hb2
   ·cases h3
  ·cases e0
   have hb:b<c.w.heap.size:=(Array.getElem?_eq_some_iff.1 e4).1
   have key:∀ ents' clk',ck c (cG es kx v) ents'.toList→qk ents'.toList clk'→(execOp a.eval o).run P c.w= .ok .skip { c.w with heap:=c.w.heap.setIfInBounds b (.map ents' clk')}→o.wpIn (FR ρ) 0 P a c.w next Q:=fun ents' clk' q1 q2 q3=>by
    have hnew:(c.w.heap.setIfInBounds b (.map ents' clk'))[b]? =some (.map ents' clk'):=by simp[hb]
    obtain⟨g1,g2⟩:=Cx.pF hi.heap (w':={ c.w with heap:=c.w.heap.setIfInBounds b (.map ents' clk')}) e1 rfl (B':= .map p.1 (cG es kx v)) (c.θ id0)
     ⟨⟨_,rfl⟩,rfl⟩ (fun k' hk' hno=>by
      have:k'≠b:=fun e=>hno 0 (by rw[e2,e])
      show(c.w.heap.setIfInBounds b _)[k']? =_
      simp[Ne.symm this]) (by simp) rfl rfl rfl (fun b' cs Ty fr hb'=>by
      refine⟨cs,fr,?_,rfl⟩
      have:b'≠b:=fun e=>by rw[e,e4] at hb';cases hb'
      show(c.w.heap.setIfInBounds b _)[b']? =_
      rw[← hb'];simp[Ne.symm this])
     (fun hg=>⟨b,ents',clk',by simp[e2],hnew,ck.grow hg _ _ q1,sq h6 e6,q2⟩)
    exact ED hd q3 (hk .undef (c.GY id0 (.map p.1 (cG es kx v)) (c.θ id0) _) undef h7 g2 aG.undef g1)
   rcases ve h6 hkey hval e5 e6 0 with⟨a1,a2,a3⟩|⟨n,e,x',a1,a2,a3,a4,a5,a6⟩
   ·refine key (ents.push { key:=a.eval y,val:=a.eval z,born:=clk}) (clk+1) ?_ ?_ ?_
    ·rw[a3,Array.toList_push]
     exact ck.snoc hkey hval e5
    ·rw[Array.toList_push]
     refine⟨fun q hq=>?_,?_⟩
     ·rcases List.mem_append.1 hq with hq|hq
      ·have:=e7.1 q hq;omega
      ·simp at hq;subst hq;simp
     ·rw[List.map_append,List.nodup_append]
      refine⟨⟨e7.2.1,by simp,fun q hq r hr=>?_⟩,by rw[List.length_append,← e7.2.2.1];rfl,by rw[e7.2.2.2,List.length_append,List.length_singleton,List.range_succ,← e7.2.2.1];rfl⟩
      simp only[List.map_cons,List.map_nil,List.mem_singleton] at hr
      obtain⟨e',he',rfl⟩:=List.mem_map.1 hq
      have:=e7.1 e' he';omega
    ·have hck:=MapKept.run_checkKey (w:=c.w) u3 k1 false 9999
     have hfk:=MapKept.run_findKey (w:=c.w) u3 a1
     have hgo:=MapKept.run_getObj_map (P:=P) e4
     have hso:=MapKept.run_setObj_map (P:=P) (.map (ents.push { key:=a.eval y,val:=a.eval z,born:=clk}) (clk+1)) e4
     rcases ho with ho|ho<;>simp only[execOp,ho,Instr.mapUpdate,e3,Sem.run_bind,run_underlying u1,Result.andThen_ok,hgo,hck,hfk,hso,Sem.run_pure]
   ·have hel:(ents.modify n fun e'=>{ e' with key:=a.eval y,val:=a.eval z}).toList=ents.toList.set n { e with key:=a.eval y,val:=a.eval z}:=by
     apply List.ext_getElem?
     intro j
     rw[Array.getElem?_toList,Array.getElem?_modify,List.getElem?_set]
     by_cases ej:n=j
     ·subst ej
      have:n<ents.toList.length:=(List.getElem?_eq_some_iff.1 a2).1
      rw[if_pos rfl,if_pos rfl,if_pos this,← Array.getElem?_toList,a2];rfl
     ·rw[if_neg ej,if_neg ej,Array.getElem?_toList]
    refine key (ents.modify n fun e'=>{ e' with key:=a.eval y,val:=a.eval z}) clk ?_ ?_ ?_
    ·rw[hel];exact a6
    ·rw[hel]
     have hborn:(ents.toList.set n { e with key:=a.eval y,val:=a.eval z}).map (·.born)=ents.toList.map (·.born):=by
      rw[List.map_set]
      apply List.ext_getElem?
      intro j
      rw[List.getElem?_set]
      by_cases ej:n=j
      ·subst ej
       have:n<(ents.toList.map (·.born)).length:=by rw[List.length_map];exact(List.getElem?_eq_some_iff.1 a2).1
       rw[if_pos rfl,if_pos this,List.getElem?_map,a2];rfl
      ·rw[if_neg ej]
     refine⟨fun q hq=>?_,by rw[hborn,List.length_set];exact e7.2⟩
     rcases List.mem_or_eq_of_mem_set hq with hq|rfl
     ·exact e7.1 q hq
     ·exact e7.1 e (List.mem_of_getElem? a2)
    ·have hn:n<ents.size:=by have:=(List.getElem?_eq_some_iff.1 a2).1;simpa using this
     have hget:ents[n]? =some e:=by rw[← Array.getElem?_toList];exact a2
     simp only[Nat.zero_add] at a1
     have hstay:(Instr.keyThatStays ((ents[n]?.map (·.key)).getD (a.eval y)) (a.eval y)).run P c.w= .ok (a.eval y) c.w:=by
      rw[hget];simp only[Option.map_some,Option.getD_some,a3];exact MapKept.run_keyThatStays k1
     have hck:=MapKept.run_checkKey (w:=c.w) u3 k1 false 9999
     have hfk:=MapKept.run_findKey (w:=c.w) u3 a1
     have hgo:=MapKept.run_getObj_map (P:=P) e4
     have hso:=MapKept.run_setObj_map (P:=P) (.map (ents.modify n fun e'=>{ e' with key:=a.eval y,val:=a.eval z}) clk) e4
     rcases ho with ho|ho<;>simp only[execOp,ho,Instr.mapUpdate,e3,Sem.run_bind,run_underlying u1,Result.andThen_ok,hgo,hck,hfk,hstay,hso,Sem.run_pure]
  ·exact absurd rfl (e0 id0)
 |_=>exact h3.elim
end
end
end Go.Proofs.YtehfihnfeakmaaaGreatDoor
