/- A part of the proof: SvL, SvM, SvN, SvO, SvP, SvQ, SvR, SvS. Names and spaces are cut short by program. -/
import Derived.Test.YtehfihnfeakmaaaGreatDoorMb
import Derived.Great.BuildSlice
import Derived.RangeFuncRecord
set_option linter.unusedSimpArgs false
set_option linter.unusedVariables false
set_option maxRecDepth 10000
set_option maxHeartbeats 4000000
namespace Go.Proofs.YtehfihnfeakmaaaGreatDoor
open Go
section
section
variable {P:Program} {G:Gl} {T:aT} {own:List Nat} {nt B:Nat} {c:Cx} {env:List (Nat×SV)} {a:Act} {ρ:Option Nat}
variable {o:Oper} {next:Act→World→Prop} {Q:Exit→Act→World→Prop} {k:SV→List ax→Prop}
theorem tD (off:Nat):∀ (l:List Value) (k:Nat) (cs:Array Value),off+k+l.length≤cs.size→
 ((l.zipIdx k).foldl (fun(cs:Array Value) (p:Value×Nat)=>cs.setIfInBounds (off+p.2) p.1) cs).toList=cs.toList.take (off+k)++l++cs.toList.drop (off+k+l.length)
 |[],k,cs,_=>by simp
 |x::l,k,cs,h=>by
  simp only[List.zipIdx_cons,List.foldl_cons]
  rw[tD off l (k+1) (cs.setIfInBounds (off+k) x) (by simp at h ⊢;omega)]
  simp only[Array.toList_setIfInBounds,List.length_cons]
  have hl:off+k<cs.toList.length:=by simp at h ⊢;omega
  rw[List.take_set,List.drop_set_of_lt (by omega)]
  rw[show off+(k+1)=(off+k)+1 by omega,List.take_add_one,List.getElem?_eq_getElem hl]
  simp only[Option.toList_some]
  rw[List.set_append_right _ _ (by simp;omega)]
  have:(cs.toList.take (off+k)).length=off+k:=by simp at hl ⊢;omega
  simp only[this,Nat.sub_self,List.set_cons_zero]
  rw[show off+k+1+l.length=off+k+(l.length+1) by omega]
  simp
theorem C5 (off:Nat) (v cs:Array Value) (h:off+v.size≤cs.size):
 (v.zipIdx.foldl (fun(cs:Array Value) (p:Value×Nat)=>cs.setIfInBounds (off+p.2) p.1) cs).toList=cs.toList.take off++v.toList++cs.toList.drop (off+v.size):=by
 rw[← Array.foldl_toList,Array.toList_zipIdx]
 have:=tD off v.toList 0 cs (by simpa using h)
 simpa using this
theorem tB {place:Nat→Option (Nat×Nat)} {cs:Array Value} {j off sz:Nat} {v:Value} {rest:List (Nat×Value)} (hp:place j=some (off,sz)) (h1:v.cells.size=sz) (h2:off+v.cells.size≤cs.size):
 ∃ cs',Instr.fill place cs ((j,v)::rest)=Instr.fill place cs' rest∧cs'.toList=cs.toList.take off++v.cells.toList++cs.toList.drop (off+v.cells.size):=by
 refine⟨_,?_,C5 off v.cells cs h2⟩
 simp only[Instr.fill,hp]
 rw[if_neg (by simp;omega)]
def placeOf (T:aT) (d:TD) (j:Nat):Option (Nat×Nat):=
 match d with
 | .struct fs _=>match fs[j]? with
  |some (off,ft)=>(T.get ft).map fun i=>(off,i.size)
  |none=>none
 | .array _ e=>(T.get e).map fun i=>(j*i.size,i.size)
 |_=>none
theorem Bf {i:TI} {x:SV} (h:fits i x=true):x.leaf=true∨x.isAgg=true:=by
 unfold fits at h
 split at h
 ·simp only[Bool.and_eq_true] at h;exact .inr h.1
 ·simp only[Bool.and_eq_true] at h;exact .inl h.1
theorem zL {fs:List SV} {off:Nat} {y z:SV} (h:lF (.agg fs) off y=some z):∃ gs,z= .agg gs:=by
 unfold lF at h
 split at h
 ·rename_i hc;cases h
  cases y with
  |agg ys=>exact⟨ys,rfl⟩
  |_=>exact absurd hc.2.2.1 (by simp[SV.isAgg])
 ·simp only at h
  split at h
  ·split at h
   ·cases h;exact⟨_,rfl⟩
   ·cases h
  ·split at h
   ·cases h;exact⟨_,rfl⟩
   ·cases h
theorem u9 (hi:Inv G nt B c env a) {d:TD} {place:Nat→Option (Nat×Nat)} (hpl:∀ j p,placeOf T d j=some p→place j=some p):∀ (parts:List (Nat×Operand)) {ps:List (Nat×SV)} {fs:List SV} {y:SV} {cs:Array Value},
 partsOf T d G env parts=some ps→aG c (.agg fs) (.agg cs)→lz (.agg fs) ps=some y→∃ cells,Instr.fill place cs (parts.map fun p=>(p.1,a.eval p.2))=some cells∧aG c y (.agg cells)
 |[],ps,fs,y,cs,h,hr,hp=>by
  simp only[partsOf,Option.some.injEq] at h;subst h
  simp only[lz,Option.some.injEq] at hp;subst hp
  exact⟨cs,rfl,hr⟩
 |(j,o)::parts,ps,fs,y,cs,h,hr,hp=>by
  simp only[partsOf] at h
  split at h
  ·rename_i off ft hoff
   split at h
   ·rename_i i hti
    split at h
    ·rename_i x hx
     split at h
     ·rename_i hf
      split at h
      ·rename_i l hl
       cases h
       simp only[lz] at hp
       split at hp
       ·rename_i z hz
        have hxr:=bP hi hx
        obtain⟨f1,f2,_,_⟩:=hxr.dG hf
        have hplace:placeOf T d j=some (off,i.size):=by
         unfold placeOf
         cases d with
         |struct fl=>
          simp only at hoff ⊢
          split at hoff
          ·rename_i off' ft' he;cases hoff;(first|rw[he]|skip);simp[hti]
          ·cases hoff
         |array n e=>
          simp only at hoff ⊢
          split at hoff
          ·rename_i i' he;cases hoff;rw[hti] at he;cases he;rw[hti];rfl
          ·cases hoff
         |_=>cases hoff
        obtain⟨u',g1,g2,g3,g4,g5⟩:=um hr hxr (Bf hf) hz
        obtain⟨cs',e1,e2⟩:=tB (rest:=parts.map fun p=>(p.1,a.eval p.2)) (hpl j _ hplace) f2 g4
        obtain⟨gs,rfl⟩:=zL hz
        have hu':u'= .agg cs':=by
         obtain⟨vs,_,_,rfl,q4,_⟩:=g1.eh
         have:vs=cs'.toList:=by rw[← q4,g5,e2]
         rw[this]
        rw[hu'] at g1
        obtain⟨cells,k1,k2⟩:=u9 hi hpl parts hl g1 hp
        exact⟨cells,e1.trans k1,k2⟩
       ·cases hp
      ·cases h
     ·cases h
    ·cases h
   ·cases h
  ·cases h
theorem zM (hT:aq P T) {fl:List Field}:(∀ f∈fl,(T.get f.type).isSome=true)→∃ places,fl.mapM (fun f=>(P.info? f.type).map fun i=>(f.offset,i.size))=some places∧
 ∀ (j:Nat) (f:Field),fl[j]? =some f→∀ i,T.get f.type=some i→places[j]? =some (f.offset,i.size):=by
 induction fl with
 |nil=>intro _;exact⟨[],rfl,by simp⟩
 |cons f fl ih=>
  intro h
  obtain⟨pl,h1,h2⟩:=ih (fun g hg=>h g (List.mem_cons_of_mem _ hg))
  obtain⟨i,hi⟩:=Option.isSome_iff_exists.1 (h f (List.mem_cons_self ..))
  obtain⟨info,i1,i2,_⟩:=eu (hT _ _ hi)
  refine⟨(f.offset,info.size)::pl,by simp[List.mapM_cons,i1,h1],fun j g hg i' hi'=>?_⟩
  cases j with
  |zero=>simp at hg;subst hg;rw[hi] at hi';cases hi';simp[i2]
  |succ j=>simpa using h2 j g (by simpa using hg) i' hi'
theorem wp_build {t:Nat} {parts:Array (Nat×Operand)} (hT:aq P T) (hi:Inv G nt B c env a) (ho:o.op= .build t parts) (h:cH P G T own env c.H o.dst o.type (.build t parts) k)
 (hk:∀ x c' u,k x c'.H→aO c'→aG c' x u→Grow c c'→next (a.put o.dst u) c'.w):o.wpIn (FR ρ) 0 P a c.w next Q:=by
 obtain⟨i,h1,⟨hkn,hza⟩,ps,h2,v,h3,h4⟩:=h
 obtain⟨hd,info,z,i1,i2,i3,i4,i5,i6⟩:=hT _ _ h1
 have hz:=(i5 c).1
 have hparts:(parts.map fun p=>(p.1,a.eval p.2)).toList=parts.toList.map fun p=>(p.1,a.eval p.2):=by simp
 obtain⟨fs,hfs⟩:∃ fs,i.zero= .agg fs:=by
  cases hzz:i.zero with
  |agg fs=>exact⟨fs,rfl⟩
  |_=>rw[hzz] at hza;cases hza
 rw[hfs] at hz h3
 obtain⟨vs0,_,_,hzv,_,_⟩:=hz.eh
 have hbuilt:∃ cells,P.built t (parts.map fun p=>(p.1,a.eval p.2)).toList=some cells∧aG c v (.agg cells):=by
  rw[hparts]
  have hz':aG c (.agg fs) (.agg z.cells):=by rw[hzv] at hz ⊢;exact hz
  cases hdd:i.d with
  |struct fl0 cmp0=>
   rw[hdd] at hd hkn h2
   obtain⟨⟨fl,hu,hfl⟩,_⟩:=hd
   have hall:∀ f∈fl.toList,(T.get f.type).isSome=true:=fun f hf=>by
    simp only[iw,List.all_eq_true] at hkn
    exact hkn (f.offset,f.type) (by rw[← hfl];exact List.mem_map.2 ⟨f,hf,rfl⟩)
   obtain⟨places,p1,p2⟩:=zM hT hall
   obtain⟨cells,c1,c2⟩:=u9 hi (place:=(places.toArray[·]?)) (d:= .struct fl0 cmp0) (fun j p hp=>by
    simp only[placeOf] at hp
    split at hp
    ·rename_i off ft he
     rw[← hfl,List.getElem?_map,Option.map_eq_some_iff] at he
     obtain⟨f,hf,he⟩:=he
     cases he
     simp only[Option.map_eq_some_iff] at hp
     obtain⟨i',hi',rfl⟩:=hp
     simpa using p2 j f hf i' hi'
    ·cases hp) parts.toList h2 hz' h3
   exact⟨cells,by simp only[Program.built,i1,hu,i4,p1];exact c1,c2⟩
  |array n e=>
   rw[hdd] at hd hkn h2
   have hu:P.underlying t=some (.array n e):=hd
   obtain⟨ei,hei⟩:=Option.isSome_iff_exists.1 (show(T.get e).isSome=true from hkn)
   obtain⟨einfo,e1,e2,_⟩:=eu (hT _ _ hei)
   obtain⟨cells,c1,c2⟩:=u9 hi (place:=fun j=>some (j*einfo.size,einfo.size)) (d:= .array n e) (fun j p hp=>by
    simp only[placeOf,hei,Option.map_some,Option.some.injEq] at hp
    subst hp;rw[e2]) parts.toList h2 hz' h3
   exact⟨cells,by simp only[Program.built,i1,hu,i4,e1];exact c1,c2⟩
  |_=>rw[hdd] at hkn;cases hkn
 obtain⟨cells,c1,c2⟩:=hbuilt
 have hrun:=run_build (P:=P) c.w t _ cells c1
 exact wp_pure hi hk (by rw[ho];intro _ e;cases e) c2 h4 (by simp[execOp,ho,hrun])
theorem ii (z:Value) (hz:0<z.cells.size) (n:Nat):((Array.range (n*z.cells.size)).map (z.cells[· % z.cells.size]!)).toList=cellsOf (List.replicate n z):=by
 have hu:∀ u∈List.replicate n z,u.cells.size=z.cells.size:=fun u hu=>by rw[List.eq_of_mem_replicate hu]
 apply List.ext_getElem?
 intro j
 by_cases hj:j<n*z.cells.size
 ·have hdiv:j / z.cells.size<n:=(Nat.div_lt_iff_lt_mul hz).2 hj
  have hmod:j % z.cells.size<z.cells.size:=Nat.mod_lt _ hz
  have:=kK hu (i:=j / z.cells.size) (u:=z) (by simp[hdiv]) (j:=j % z.cells.size) (x:=z.cells[j % z.cells.size]) (by simp[hmod])
  rw[show j / z.cells.size*z.cells.size+j % z.cells.size=j by rw[Nat.mul_comm];exact Nat.div_add_mod j _] at this
  rw[this]
  simp[hj,hmod]
 ·rw[List.getElem?_eq_none (by simp;omega),List.getElem?_eq_none (by rw[aW hu,List.length_replicate];omega)]
theorem Bz {α:Type} (A M B V:List α) {n m:Nat} (h1:A.length=n) (h2:M.length=m):(A++M++B).take n++V++(A++M++B).drop (n+m)=A++(V++B):=by
 subst h1 h2
 rw[← List.length_append,List.drop_left,List.append_assoc A M B,List.take_left,List.append_assoc]
theorem qK (hi:Inv G nt B c env a) {i:TI}:∀ (parts:List (Nat×Operand)) {xs ys:List SV} {vs:List Value} {cs:Array Value},cW i G env xs parts=some ys→aC c xs vs→(∀ u∈vs,u.cells.size=i.size∧ct u)→cs.toList=cellsOf vs→
 ∃ cells us,Instr.fill (fun j=>some (j*i.size,i.size)) cs (parts.map fun p=>(p.1,a.eval p.2))=some cells∧aC c ys us∧(∀ u∈us,u.cells.size=i.size∧ct u)∧cells.toList=cellsOf us
 |[],xs,ys,vs,cs,h,hr,hu,hc=>by
  simp only[cW,Option.some.injEq] at h;subst h
  exact⟨cs,vs,rfl,hr,hu,hc⟩
 |(j,o)::parts,xs,ys,vs,cs,h,hr,hu,hc=>by
  simp only[cW] at h
  split at h
  ·rename_i x hx
   split at h
   ·rename_i hf
    have hxr:=bP hi hx
    obtain⟨f1,f2,_,_⟩:=hxr.dG hf.1
    have hvl:=hr.length
    obtain⟨e1,e2,e3⟩:=uh (l:=vs) (j:=j) (List.getElem?_eq_getElem (by omega)) (a.eval o)
    have hA:(cellsOf (vs.take j)).length=j*i.size:=by rw[aW (fun u h=>(hu u (List.mem_of_mem_take h)).1),e3]
    have hm:(vs[j]'(by omega)).cells.toList.length=i.size:=by rw[Array.length_toList];exact(hu _ (List.getElem_mem _)).1
    have hcs:cs.toList=cellsOf (vs.take j)++(vs[j]'(by omega)).cells.toList++cellsOf (vs.drop (j+1)):=by
     rw[hc];conv=>lhs;rw[e1,bR,dZ]
     simp[List.append_assoc]
    have hsz:cs.size=cs.toList.length:=by simp
    obtain⟨cs',g1,g2⟩:=tB (place:=fun j=>some (j*i.size,i.size)) (rest:=parts.map fun p=>(p.1,a.eval p.2)) (j:=j) (cs:=cs) rfl f2 (by
     rw[hsz,hcs,List.length_append,List.length_append,hA,hm];omega)
    have g2':cs'.toList=cellsOf (vs.set j (a.eval o)):=by
     rw[g2,e2,bR,dZ,hcs,f2]
     exact Bz _ _ _ _ hA hm
    obtain⟨cells,us,k1,k2,k3,k4⟩:=qK hi parts h (hr.set j hxr) (fun u hu'=>by
     rcases List.mem_or_eq_of_mem_set hu' with hu'|rfl
     ·exact hu u hu'
     ·exact⟨f2,f1⟩) g2'
    exact⟨cells,us,g1.trans k1,k2,k3,k4⟩
   ·cases h
  ·cases h
theorem aC.replicate {x:SV} {v:Value} (h:aG c x v):∀ n,aC c (List.replicate n x) (List.replicate n v)
 |0=>aC.bX
 |n+1=>aC.bB h (aC.replicate h n)
theorem kR {i:TI}:∀ (parts:List (Nat×Operand)) {xs ys:List SV},cW i G env xs parts=some ys→ys.length=xs.length
 |[],xs,ys,h=>by simp only[cW,Option.some.injEq] at h;subst h;rfl
 |(j,o)::parts,xs,ys,h=>by
  simp only[cW] at h
  split at h
  ·split at h
   ·rw[kR parts h];simp
   ·cases h
  ·cases h
theorem wp_buildSlice {t len:Nat} {parts:Array (Nat×Operand)} (hT:aq P T) (hi:Inv G nt B c env a) (ho:o.op= .buildSlice t len parts) (h:cH P G T own env c.H o.dst o.type (.buildSlice t len parts) k)
 (hk:∀ x c' u,k x c'.H→aO c'→aG c' x u→Grow c c'→next (a.put o.dst u) c'.w):o.wpIn (FR ρ) 0 P a c.w next Q:=by
 obtain⟨e,h1,⟨⟨hsm,hs0⟩,hzf⟩,xs,h2,h3⟩:=h
 obtain⟨ht,hei⟩:=dA hT h1
 obtain⟨_,info,z,i1,i2,i3,i4,i5,i6⟩:=hei
 obtain⟨z1,z2⟩:=i5 c
 obtain⟨_,zsz,zag,znag⟩:=z1.dG hzf
 have hd:∀ c,o.op≠ .defer c:=by rw[ho];intro _ e;cases e
 have hl:xs.length=len:=by rw[kR _ h2,List.length_replicate]
 have hpar:(parts.map fun p=>(p.1,a.eval p.2)).toList=parts.toList.map fun p=>(p.1,a.eval p.2):=by simp
 have hrun:∃ cells us,(execOp a.eval o).run P c.w= .ok (.value (.slice (some ⟨c.w.heap.size,0,none⟩) len len)) (c.w.alloc (.cells cells e.1))∧aC c xs us∧(∀ u∈us,u.cells.size=e.2.size∧ct u)∧cells.toList=cellsOf us:=by
  by_cases h0:len*e.2.size=0
  ·by_cases hl0:len=0
   ·subst hl0
    have hx0:xs=[]:=List.eq_nil_of_length_eq_zero hl
    subst hx0
    have hp0:parts.toList=[]:=by
     cases hp:parts.toList with
     |nil=>rfl
     |cons p r=>
      obtain⟨j,q⟩:=p
      rw[hp] at h2
      simp[cW] at h2
      split at h2<;>simp_all
    have hp0':parts= #[]:=by rw[← Array.toList_inj];simpa using hp0
    refine⟨#[],[],?_,aC.bX,by simp,rfl⟩
    simp[execOp,ho,Instr.buildSlice,run_underlying ht,sizeOf,typeInfo,i1,hp0',Instr.fill,newRow]
    exact congrArg (fun q=>c.w.alloc (Obj.cells q e.1)) (Array.ext' (by simp))
   ·have:e.2.size=0:=by rcases Nat.mul_eq_zero.1 h0 with h|h<;>omega
    omega
  ·have hpos:0<z.cells.size:=by rw[i6];exact Nat.pos_of_ne_zero fun hh=>h0 (by rw[hh,Nat.mul_zero])
   have hzl:=ii z hpos len
   rw[i6] at hzl
   obtain⟨cells,us,k1,k2,k3,k4⟩:=qK hi parts.toList (vs:=List.replicate len z) (cs:=(Array.range (len*e.2.size)).map (z.cells[· % z.cells.size]!)) h2 (aC.replicate z1 len) (fun u hu=>by rw[List.eq_of_mem_replicate hu];exact⟨i6,z2⟩) (by rw[← hzl,i6])
   refine⟨cells,us,?_,k2,k3,k4⟩
   have:=run_buildSlice (P:=P) c.w t e.1 len (parts.map fun p=>(p.1,a.eval p.2)) cells info z ht i1 i4 (by rw[i2];omega) (by rw[i2];exact h0) (by rw[i2,hpar];exact k1)
   simp[execOp,ho,this]
 obtain⟨cells,us,r1,r2,r3,r4⟩:=hrun
 have hnew:(c.w.alloc (.cells cells e.1)).heap[c.w.heap.size]? =some (.cells cells e.1 (0,0)):=heap_alloc_new c.w _
 have hcs:len*e.2.size=cells.size:=by
  have:cells.toList.length=us.length*e.2.size:=by rw[r4,aW (fun u h=>(r3 u h).1)]
  rw[r2.length,hl] at this
  simpa using this.symm
 have hlm:len≤maxLen:=by
  have:len*1≤len*e.2.size:=Nat.mul_le_mul_left _ hs0
  unfold maxLen;omega
 cases hin:(len==0||oD o.dst own) with
 |true=>
  replace h3:=h3.1 hin
  obtain⟨g1,g2⟩:=gE hi.heap r2 r3 cells [] (by simpa using r4) e.1 (0,0) (.inl rfl) (w0:=c.w) rfl rfl rfl rfl
  refine ez hd r1 (hk _ _ _ h3 g2 ?_ g1)
  have:=fK c e.2.size xs (some (c.w.heap.size,0)) (c.w.alloc (.cells cells e.1)) (a:=some ⟨c.w.heap.size,0,none⟩) (cap:=len) (by omega) hlm (.inr ⟨c.w.heap.size,cells,e.1,(0,0),rfl,rfl,hnew,hcs⟩)
  rwa[hl] at this
 |false=>
  replace h3:=h3.2 hin
  obtain⟨g1,g2⟩:=Cx.world hi.heap (w':=c.w.alloc (.cells cells e.1)) (fun b hb=>heap_alloc_old c.w _ b hb) (by simp) rfl rfl rfl
  refine ez hd r1 (hk _ { c with w:=c.w.alloc (.cells cells e.1)} _ h3 g2 ?_ g1)
  simp only[aG]
  refine⟨some ⟨c.w.heap.size,0,none⟩,len,by rw[hl],by omega,hlm,.inr ⟨c.w.heap.size,0,us,rfl,r2.grow g1,r3,fun j v hv=>?_,by simp,?_⟩⟩
  ·rw[im hnew,Nat.zero_add,← Array.getElem?_toList,r4];exact hv
  ·rintro⟨id,o',⟨B,hB,hBl⟩,hθ⟩
   have:=dY.lt (hi.heap.ee id B hB) hBl hθ
   omega
theorem vL {t:Nat} {x y:Operand} (hT:aq P T) (hi:Inv G nt B c env a) (ho:o.op= .makeSlice t x y) (h:cH P G T own env c.H o.dst o.type (.makeSlice t x y) k)
 (hk:∀ x c' u,k x c'.H→aO c'→aG c' x u→Grow c c'→next (a.put o.dst u) c'.w):o.wpIn (FR ρ) 0 P a c.w next Q:=by
 obtain⟨e,h1,xv,h2,n,h3,yv,h4,m,h5,⟨rfl,hn,hb0,hs0,hb⟩,hzf,hkk⟩:=h
 obtain⟨ht,hei⟩:=dA hT h1
 obtain⟨_,info,z,i1,i2,i3,i4,i5,i6⟩:=hei
 obtain⟨z1,z2⟩:=i5 c
 have hd:∀ c,o.op≠ .defer c:=by rw[ho];intro _ e;cases e
 obtain⟨ki,rfl⟩:=iX h3
 obtain⟨kj,rfl⟩:=iX h5
 have hx:=bP hi h2
 have hy:=bP hi h4
 simp only[aG] at hx hy
 have hbig:m.toNat≤70368744177664:=Nat.le_trans (Nat.le_mul_of_pos_right _ hb0) hb
 have hby:(info.bytes:Int)*m≤281474976710656:=by
  rw[i3,show m=(m.toNat:Int) by omega,← Int.natCast_mul,Nat.mul_comm]
  omega
 have hrun:=run_make (P:=P) c.w t e.1 info z ht i1 i4 ki kj m m hn (Int.le_refl _) hby (by omega)
 have hpos:0<z.cells.size:=by rw[i6];exact hs0
 have hzl:=ii z hpos m.toNat
 have hlen:(List.replicate m.toNat e.2.zero).length=m.toNat:=List.length_replicate
 obtain⟨g1,g2⟩:=gE hi.heap (aC.replicate z1 m.toNat) (fun u hu=>by rw[List.eq_of_mem_replicate hu];exact⟨i6,z2⟩) (madeCells z.cells (m.toNat*info.size)) [] (by
  rw[i2,← i6,List.append_nil,← hzl];rfl) e.1 (0,0) (.inl rfl) (w0:=c.w) rfl rfl rfl rfl
 refine ez (u:= .slice (some ⟨c.w.heap.size,0,none⟩) m.toNat m.toNat) hd (by simp[execOp,ho,hx.1,hy.1,hrun]) (hk _ _ _ hkk g2 ?_ g1)
 have:=fK c e.2.size (List.replicate m.toNat e.2.zero) (some (c.w.heap.size,0)) (c.w.alloc (.cells (madeCells z.cells (m.toNat*info.size)) e.1)) (a:=some ⟨c.w.heap.size,0,none⟩) (cap:=m.toNat) (by omega) (by unfold maxLen;omega) (.inr ⟨c.w.heap.size,_,e.1,(0,0),rfl,rfl,heap_alloc_new c.w _,by rw[size_madeCells,i2]⟩)
 rwa[hlen] at this
theorem Cd {t:Nat} {x:Operand} {lo:Option Operand} {hi' mx:Operand} (hT:aq P T) (hi:Inv G nt B c env a) (ho:o.op= .slice t x lo (some hi') (some mx)) (h:cH P G T own env c.H o.dst o.type (.slice t x lo (some hi') (some mx)) k)
 (hk:∀ x c' u,k x c'.H→aO c'→aG c' x u→Grow c c'→next (a.put o.dst u) c'.w):o.wpIn (FR ρ) 0 P a c.w next Q:=by
 obtain⟨e,h1,v,h2,n,h3,l,h4,hh,h5,m,h6,⟨e1,e2,e3,e4⟩,hs,hkk⟩:=h
 obtain⟨hu,hei⟩:=dA hT h1
 obtain⟨info,i1,i2,_⟩:=eu hei
 have hv:=bP hi h2
 have hd:∀ c,o.op≠ .defer c:=by rw[ho];intro _ e;cases e
 have hlo:(lo.map a.eval=none∧l=0)∨∃ i,lo.map a.eval=some (.int i l):=by
  rcases gJ hi h4 with⟨rfl,rfl⟩|⟨z,i,rfl,hz⟩
  ·exact .inl ⟨rfl,rfl⟩
  ·exact .inr ⟨i,by simp[hz]⟩
 obtain⟨jh,hhi⟩:∃ i,a.eval hi'= .int i hh:=by
  rcases gJ hi h5 with⟨hq,_⟩|⟨z,i,hq,hz⟩
  ·cases hq
  ·cases hq;exact⟨i,hz⟩
 obtain⟨jm,hmx⟩:∃ i,a.eval mx= .int i m:=by
  rcases gJ hi h6 with⟨hq,_⟩|⟨z,i,hq,hz⟩
  ·cases hq
  ·cases hq;exact⟨i,hz⟩
 have hsl:∃ aa cap,a.eval x= .slice aa n cap∧n≤cap:=by
  cases v with
  |nil=>simp only[eP,Option.some.injEq] at h3;subst h3;simp only[aG] at hv;exact⟨none,0,hv,Nat.le_refl _⟩
  |list sz xs=>simp only[eP,Option.some.injEq] at h3;subst h3;simp only[aG] at hv;obtain⟨aa,cap,g1,g2,_⟩:=hv;exact⟨aa,cap,g1,g2⟩
  |sl id g off len=>
   simp only[eP,Option.some.injEq] at h3;subst h3
   simp only[dJ] at hs
   cases hb:cL c.H id g with
   |none=>rw[hb] at hs;cases hs
   |some p=>
    obtain⟨sz,vals⟩:=p
    simp only[aG,cz hb] at hv
    rcases hv.2 with hv|⟨_,_,aa,cap,g1,g2,_⟩
    ·omega
    ·exact⟨aa,cap,g1,g2⟩
  |_=>simp[dJ] at hs
 obtain⟨aa,cap,hx,hcap⟩:=hsl
 have hb:(Instr.sliceBounds true n cap (lo.map a.eval) (some (.int jh hh)) (some (.int jm m))).run P c.w= .ok (l.toNat,hh.toNat,m.toNat) c.w:=by
  have q1:0≤m∧m≤(cap:Int):=⟨by omega,by omega⟩
  have q2:0≤hh∧hh≤((m.toNat:Nat):Int):=⟨by omega,by omega⟩
  have q3:0≤l∧l≤((hh.toNat:Nat):Int):=⟨by omega,by omega⟩
  rcases hlo with⟨hl,rfl⟩|⟨i,hl⟩<;>rw[hl]<;>simp only[Instr.sliceBounds,Instr.sliceBound,asIntOf,Sem.run_bind,Sem.run_pure,Result.andThen_ok,q1,q2,q3,and_self,if_true]<;>rfl
 obtain⟨g1,g2⟩:=Cx.fresh hi.heap c.w.heap.size (Nat.le_refl _) 0 none (.inl rfl) .dead (w':=c.w) (fun _ _=>rfl) (Nat.le_refl _) rfl rfl rfl (fun hg=>trivial)
 refine ez hd (u:= .slice (if m.toNat=l.toNat then aa else aa.map (·.add (l.toNat*e.2.size))) (hh.toNat - l.toNat) (m.toNat - l.toNat)) (w':=c.w) ?_ (hk (.sl c.H.length 0 0 0) (c.add .dead none c.w) _ hkk g2 ?_ g1)
 ·simp[execOp,ho,Instr.sliceAt,run_underlying hu,Instr.slice,hx,hhi,hmx,hb,sizeOf,typeInfo,i1,i2]
 ·simp only[aG,List.getElem?_concat_length]
  exact⟨rfl,trivial⟩
theorem HM (hi:Inv G nt B c env a) {t:Nat} {i:TI} (ht:aL P t i) {v:SV} {u:Value} (hv:aG c v u) (hf:lS c.H i.d v=true) {n:Nat} (hn:eP c.H v=some n) (hm:∀ k e,i.d= .map k e→n≤9223372036854775807) (ty:Nat):
 (Builtin.len_ #[t] ty #[u]).run P c.w= .ok (.int .i64 n) c.w∧aG c (.int .i64 n) (.int .i64 n):=by
 have hd:=ht.1
 have fin:∀ n:Nat,n≤9223372036854775807→aG c (.int .i64 n) (.int .i64 n):=fun n h=>by
  simp only[aG,IntKind.min,IntKind.max,IntKind.signed,IntKind.bits]
  refine⟨trivial,?_,?_⟩<;>simp<;>omega
 cases hdd:i.d with
 |str=>
  rw[hdd] at hf hd
  cases v with
  |str s=>
   simp only[eP,Option.some.injEq] at hn;subst hn
   simp only[aG] at hv
   have hu:P.underlying t=some .string:=hd
   have hsz:(ByteArray.mk ⟨s⟩).size=s.length:=rfl
   exact⟨by simp[Builtin.len_,run_underlying hu,hv.1,goInt,hsz],fin _ (by have:=hv.2;unfold maxLen at this;omega)⟩
  |_=>cases hf
 |slice e=>
  rw[hdd] at hf hd
  have hu:P.underlying t=some (.slice e):=hd
  cases v with
  |nil=>simp only[eP,Option.some.injEq] at hn;subst hn;simp only[aG] at hv;exact⟨by simp[Builtin.len_,run_underlying hu,hv,goInt],fin _ (by omega)⟩
  |list sz xs=>
   simp only[eP,Option.some.injEq] at hn;subst hn
   simp only[aG] at hv
   obtain⟨aa,cap,h1,h2,h3,_⟩:=hv
   exact⟨by simp[Builtin.len_,run_underlying hu,h1,goInt],fin _ (by unfold maxLen at h3;omega)⟩
  |sl id g off len=>
   simp only[eP,Option.some.injEq] at hn;subst hn
   simp only[lS,Option.isSome_iff_exists] at hf
   obtain⟨⟨sz,vals⟩,hb⟩:=hf
   simp only[aG,cz hb] at hv
   rcases hv.2 with hv|⟨_,_,aa,cap,h1,h2,h3,_⟩
   ·omega
   ·exact⟨by simp[Builtin.len_,run_underlying hu,h1,goInt],fin _ (by unfold maxLen at h3;omega)⟩
  |_=>cases hf
 |map kt e=>
  rw[hdd] at hf hd
  have hu:P.underlying t=some (.map kt e):=hd
  cases v with
  |bu=>simp only[eP,Option.some.injEq] at hn;subst hn;simp only[aG] at hv;exact⟨by simp[Builtin.len_,run_underlying hu,hv,goInt],fin _ (by omega)⟩
  |map id=>
   simp only[eP] at hn
   split at hn
   ·rename_i kd es hb
    cases hn
    simp only[aG,hb] at hv
    obtain⟨_,b,h1,h2⟩:=hv
    obtain⟨b',ents,clk,h3,h4,h5,_⟩:=hi.heap.ee id _ hb
    rw[h1] at h3;cases h3
    have hlen:∀ {es:List (SV×SV)} {l:List MapEntry},ck c es l→l.length=es.length:=by
     intro es
     induction es with
     |nil=>intro l h;simp only[ck] at h;rw[h];rfl
     |cons p es ih=>intro l h;obtain⟨q,x⟩:=p;simp only[ck] at h;obtain⟨e',es',_,_,h3,rfl⟩:=h;simp[ih h3]
    have hle:=hlen h5
    rw[Array.length_toList] at hle
    exact⟨by simp[Builtin.len_,run_underlying hu,h2,MapKept.run_getObj_map h4,goInt,hle],fin _ (hm kt e hdd)⟩
   ·cases hn
  |_=>cases hf
 |_=>rw[hdd] at hf;cases v<;>cases hf
theorem pz {w:World} {b o:Nat} {vs:List Value} (ht:w.there b o vs.length) (h1:∀ v∈vs,v.oneCell'=true):(storeCells ⟨b,o,none⟩ vs).run P w= .ok () (w.setCells b o vs):=by
 have:=run_storeCells_cells (P:=P) b o vs 0 w (fun j hj=>(ht j hj).1) (fun j hj=>(ht j hj).2) h1
 simpa using this
theorem Fh {d s:Operand} {t ts:Nat} (hT:aq P T) (hi:Inv G nt B c env a) (hk:∀ x c' u,k x c'.H→aO c'→aG c' x u→Grow c c'→next (a.put o.dst u) c'.w)
 (ho:o.op= .call { callee:= .builtin .copy,args:=⟨[d,s]⟩,argTypes:=⟨[t,ts]⟩}) {e e':Nat×TI} (h1:elemOf T t=some e) (h2:elemOf T ts=some e') {dv sv:SV} (h3:ev G env d=some dv) (h4:ev G env s=some sv) {ys:List SV} (h5:dJ c.H sv=some ys) (h6:kc c.H e.2.size sv=true)
 (h7:match (generalizing:=false) dv with
  | .sl id g off len=>aI (cL c.H id g) fun b=>bV (b.1=e.2.size∧0<e.2.size∧off+len≤b.2.length)
   (k (.int .i64 (min ys.length len:Nat)) (c.H.set id (.cells g e.2.size (b.2.take off++ys.take (min ys.length len)++b.2.drop (off+min ys.length len)))))
  |_=>False):o.wpIn (FR ρ) 0 P a c.w next Q:=by
 have hd:∀ c,o.op≠ .defer c:=by rw[ho];intro _ e;cases e
 obtain⟨ht,hei⟩:=dA hT h1
 obtain⟨hts,_⟩:=dA hT h2
 obtain⟨info,i1,i2,_⟩:=eu hei
 cases dv with
 |sl id g off len=>
  obtain⟨⟨bsz,vals⟩,hb1,⟨hsz,hs0,hoff⟩,hkk⟩:=h7
  simp only at hsz hoff hkk
  subst hsz
  have hb':=cz hb1
  have hdv:=bP hi h3
  have hdv':=hdv
  simp only[aG,hb'] at hdv
  rcases hdv.2 with hq|⟨_,_,aa,cap,hda,hcap,hcapm,hcapd⟩
  ·omega
  obtain⟨sa,scap,vs,q1,q2,q3,q4,q5,q6⟩:=zG hi.heap (bP hi h4) h5 h6
  have hvl:vs.length=ys.length:=q4.length
  generalize hN:min ys.length len=N at hkk
  have hN1:N≤ys.length:=by omega
  have hN2:N≤len:=by omega
  have hmin:Nat.min ys.length len=N:=hN
  have hrep:aG c (.int .i64 (N:Int)) (goInt N):=by
   simp only[aG,goInt,IntKind.min,IntKind.max,IntKind.signed,IntKind.bits]
   refine⟨trivial,?_,?_⟩<;>simp<;>unfold maxLen at hcapm<;>omega
  by_cases h0:N=0
  ·subst h0
   have hset:c.H.set id (.cells g e.2.size (vals.take off++ys.take 0++vals.drop (off+0)))=c.H:=by
    rw[List.take_zero,kO,su hb']
   rw[hset] at hkk
   refine wp_pure (u:=goInt 0) hi hk hd hrep hkk ?_
   have hl:∀ (x:Addr),(loadCells x 0).run P c.w= .ok #[] c.w:=fun x=>by simpa using run_loadCells_list (P:=P) c.w x [] (by simp)
   cases aa<;>cases sa<;>simp[execOp,ho,resolve,invoke,builtin,hda,q1,Builtin.copy_,run_underlying ht,Builtin.lenOf,Builtin.firstCells,sizeOf,typeInfo,i1,hmin,storeCells,hl,goInt]
  ·rcases hcapd with hcapd|⟨b,o1,cs,Ty,fr,e1,e2,e3,e4⟩
   ·omega
   rcases q6 with q6|⟨sb,so,q6,q7⟩
   ·subst q6;simp at hN1;omega
   have hyt:(ys.take N).length=N:=by simp;omega
   have hvt:(vs.take N).length=N:=by simp;omega
   have hcl:(cellsOf (vs.take N)).length=N*e.2.size:=by rw[aW (fun u h=>(q5 u (List.mem_of_mem_take h)).1),hvt]
   have hu:∀ u∈vs.take N,u.cells.size=e.2.size∧ct u:=fun u h=>q5 u (List.mem_of_mem_take h)
   obtain⟨hthere,g1,g2⟩:=sN hi.heap hb' e1 off (q4.take N) hu (by rw[hyt];omega)
   rw[hyt] at g1 g2
   have hst:=pz (P:=P) hthere (mA fun u h=>(hu u h).2)
   have hld:(loadCells ⟨sb,so,none⟩ (N*e.2.size)).run P c.w= .ok (cellsOf (vs.take N)).toArray c.w:=by
    rw[← hcl]
    exact run_loadCells_list (P:=P) c.w _ _ (fun j v hj=>by
     rw[Addr.add_mid]
     have hpre:cellsOf vs=cellsOf (vs.take N)++cellsOf (vs.drop N):=by rw[← bR,List.take_append_drop]
     exact q7 j v (by rw[hpre,List.getElem?_append_left (List.getElem?_eq_some_iff.1 hj).1];exact hj))
   subst e2 q6
   have hfin:=hk (.int .i64 (N:Int)) _ (goInt N) hkk g2 (hrep.grow g1) g1
   refine ez hd ?_ hfin
   simp[execOp,ho,resolve,invoke,builtin,hda,q1,Builtin.copy_,run_underlying ht,Builtin.lenOf,Builtin.firstCells,sizeOf,typeInfo,i1,i2,hmin,hld,hst,goInt]
 |_=>exact h7.elim
theorem CL {x:Operand} {t:Nat} (hT:aq P T) (hi:Inv G nt B c env a) (hk:∀ x c' u,k x c'.H→aO c'→aG c' x u→Grow c c'→next (a.put o.dst u) c'.w)
 (ho:o.op= .call { callee:= .builtin .clear,args:=⟨[x]⟩,argTypes:=⟨[t]⟩}) {e:Nat×TI} (h1:elemOf T t=some e) {xv:SV} (h2:ev G env x=some xv)
 (h3:match (generalizing:=false) xv with
  | .nil=>k (.tuple []) c.H
  | .sl id g off len=>aI (cL c.H id g) fun b=>bV (b.1=e.2.size∧0<e.2.size∧off+len≤b.2.length)
   (k (.tuple []) (c.H.set id (.cells g e.2.size (b.2.take off++List.replicate len e.2.zero++b.2.drop (off+len)))))
  |_=>False):o.wpIn (FR ρ) 0 P a c.w next Q:=by
 have hd:∀ c,o.op≠ .defer c:=by rw[ho];intro _ e;cases e
 obtain⟨ht,hei⟩:=dA hT h1
 obtain⟨_,info,z,i1,i2,i3,i4,i5,i6⟩:=hei
 obtain⟨z1,z2⟩:=i5 c
 have hrep:∀ c,aG c (.tuple []) (.tuple #[]):=fun c=>by simp only[aG];exact⟨[],aC.bX,rfl⟩
 have hx:=bP hi h2
 cases xv with
 |nil=>
  simp only[aG] at hx
  refine wp_pure hi hk hd (hrep c) h3 ?_
  simp[execOp,ho,resolve,invoke,builtin,hx,Builtin.clear_,run_underlying ht]
 |sl id g off len=>
  obtain⟨⟨bsz,vals⟩,hb1,⟨hsz,hs0,hoff⟩,hkk⟩:=h3
  simp only at hsz hoff hkk
  subst hsz
  have hb':=cz hb1
  simp only[aG,hb'] at hx
  rcases hx.2 with hq|⟨_,_,aa,cap,hda,hcap,hcapm,hcapd⟩
  ·omega
  by_cases h0:len=0
  ·subst h0
   have hset:c.H.set id (.cells g e.2.size (vals.take off++List.replicate 0 e.2.zero++vals.drop (off+0)))=c.H:=by
    rw[List.replicate_zero,kO,su hb']
   rw[hset] at hkk
   refine wp_pure hi hk hd (hrep c) hkk ?_
   cases aa<;>simp[execOp,ho,resolve,invoke,builtin,hda,Builtin.clear_,run_underlying ht]
  ·rcases hcapd with hcapd|⟨b,o1,cs,Ty,fr,e1,e2,e3,e4⟩
   ·omega
   have hu:∀ u∈List.replicate len z,u.cells.size=e.2.size∧ct u:=fun u h=>by rw[List.eq_of_mem_replicate h];exact⟨i6,z2⟩
   obtain⟨hthere,g1,g2⟩:=sN hi.heap hb' e1 off (aC.replicate z1 len) hu (by rw[List.length_replicate];exact hoff)
   rw[List.length_replicate] at g1 g2
   have hst:=pz (P:=P) hthere (mA fun u h=>(hu u h).2)
   have hzl:(Builtin.zeroCells z.cells len).toList=cellsOf (List.replicate len z):=ii z (by rw[i6];exact hs0) len
   subst e2
   have hfin:=hk (.tuple []) _ (.tuple #[]) hkk g2 (hrep _) g1
   refine ez hd ?_ hfin
   cases len with
   |zero=>exact absurd rfl h0
   |succ len=>simp[execOp,ho,resolve,invoke,builtin,hda,Builtin.clear_,run_underlying ht,zeroValue,typeInfo,i1,i4,hzl,hst]
 |_=>exact h3.elim
theorem zT {b:Builtin} {args:Array Operand} {tys:Array Nat} (hT:aq P T) (hi:Inv G nt B c env a) (ho:o.op= .call { callee:= .builtin b,args,argTypes:=tys}) (h:dO T G env c.H b args.toList tys.toList k)
 (hk:∀ x c' u,k x c'.H→aO c'→aG c' x u→Grow c c'→next (a.put o.dst u) c'.w):o.wpIn (FR ρ) 0 P a c.w next Q:=by
 have hd:∀ c,o.op≠ .defer c:=by rw[ho];intro _ e;cases e
 obtain⟨args⟩:=args
 obtain⟨tys⟩:=tys
 simp only at h
 unfold dO at h
 split at h
 ·rename_i x t
  obtain⟨i,h1,v,h2,h3,n,h4,h5⟩:=h
  have hkn:k (.int .i64 n) c.H∧∀ kk e,i.d= .map kk e→n≤9223372036854775807:=by
   split at h5
   ·rename_i kk e he;exact⟨h5.2,fun _ _ _=>h5.1⟩
   ·rename_i hne;exact⟨h5,fun kk e he=>absurd he (hne kk e)⟩
  obtain⟨r1,r2⟩:=HM (P:=P) hi (hT t i h1) (bP hi h2) h3 h4 hkn.2 o.type
  exact wp_pure hi hk hd r2 hkn.1 (by simp[execOp,ho,resolve,invoke,builtin,r1])
 ·rename_i s x t tx
  obtain⟨e,h1,ix,h2,sv,h3,xv,h4,h5⟩:=h
  obtain⟨ht,hei⟩:=dA hT h1
  have key:∀ {ys:List SV} {vs:List Value},aC c ys vs→(∀ u∈vs,u.cells.size=e.2.size∧ct u)→Src P e.2.size tx (a.eval x) ys.length (cellsOf vs) c.w→eC c.H e.2 sv ys k→o.wpIn (FR ρ) 0 P a c.w next Q:=fun q1 q2 q3 q4=>by
   obtain⟨z,c',u,k1,k2,k3,k4,k5⟩:=AX hi.heap ht hei (bP hi h3) q1 q2 q3 o.type q4
   exact ez hd (by simp[execOp,ho,resolve,invoke,builtin,k5]) (hk z c' u k1 k2 k3 k4)
  have hix:=(hT tx ix h2).1
  split at h5
  ·rename_i e' he
   rw[he] at hix
   obtain⟨ys,h6,h7,h8⟩:=h5
   obtain⟨vs,q1,q2,q3⟩:=H9 (P:=P) hi.heap (bP hi h4) h6 h7 hix
   exact key q1 q2 q3 h8
  ·rename_i he
   rw[he] at hix
   cases xv with
   |str bs=>
    obtain⟨h6,h7⟩:=h5
    obtain⟨vs,q1,q2,q3⟩:=vG (P:=P) (c:=c) bs hix
    have hxv:=bP hi h4
    simp only[aG] at hxv
    exact key q1 (by rw[h6];exact q2) (by rw[h6,hxv.1];exact q3) h7
   |_=>exact h5.elim
  ·exact h5.elim
 ·rename_i d s t ts
  obtain⟨e,h1,e',h2,dv,h3,sv,h4,ys,h5,h6,h7⟩:=h
  exact Fh hT hi hk ho h1 h2 h3 h4 h5 h6 h7
 ·rename_i x t
  obtain⟨e,h1,xv,h2,h3⟩:=h
  exact CL hT hi hk ho h1 h2 h3
 ·rename_i x y
  obtain⟨p,h1,q,h2,h3⟩:=h
  cases p with
  |int i m=>cases q with
   |int j n=>
    obtain⟨h4,h5⟩:=h3
    have r1:=bP hi h1
    have r2:=bP hi h2
    simp only[aG] at r1 r2
    refine wp_pure (u:= .int i (if n<m then n else m)) hi hk hd (by simp only[aG];refine⟨trivial,?_⟩;split<;>first|exact h4|exact r1.2) h5 ?_
    simp[execOp,ho,resolve,invoke,builtin,Builtin.min_,Builtin.min2,r1.1,r2.1]
   |_=>exact h3.elim
  |_=>exact h3.elim
 ·rename_i x y
  obtain⟨p,h1,q,h2,h3⟩:=h
  cases p with
  |int i m=>cases q with
   |int j n=>
    obtain⟨h4,h5⟩:=h3
    have r1:=bP hi h1
    have r2:=bP hi h2
    simp only[aG] at r1 r2
    refine wp_pure (u:= .int i (if m<n then n else m)) hi hk hd (by simp only[aG];refine⟨trivial,?_⟩;split<;>first|exact h4|exact r1.2) h5 ?_
    simp[execOp,ho,resolve,invoke,builtin,Builtin.max_,Builtin.max2,r1.1,r2.1]
   |_=>exact h3.elim
  |_=>exact h3.elim
 ·exact h.elim
theorem Gq {f:Operand} {args:Array Operand} {tys:Array Nat} (hi:Inv G nt B c env a) (ho:o.op= .call { callee:= .value f,args,argTypes:=tys}) {fv:SV} {xs:List SV} (hf:ev G env f=some fv) (hx:jb G env args.toList=some xs)
 (h:bz P G fv xs c.H fun r H'=>p9 (k r H'))
 (hk:∀ x c' u,k x c'.H→aO c'→aG c' x u→Grow c c'→next (a.put o.dst u) c'.w):o.wpIn (FR ρ) 0 P a c.w next Q:=by
 have hd:∀ c,o.op≠ .defer c:=by rw[ho];intro _ e;cases e
 obtain⟨d,w1,h1,h2⟩:=h c (a.eval f) (args.toList.map a.eval) rfl hi.heap hi.gn (bP hi hf) (uX hi hx)
 refine⟨fun _ _=>trivial,?_⟩
 rw[Oper.semAt_eq _ _ _ hd]
 have harr:args.map a.eval=(args.toList.map a.eval).toArray:=by rw[← Array.toList_inj];simp
 have hres:(resolve a.eval { callee:= .value f,args,argTypes:=tys} o.type).run P c.w= .ok d w1:=by
  simp only[resolve];rw[harr];exact h1
 have hm:∀ {R:Ending→World→Prop},(∀ v w',(∃ x c',c'.w=w'∧k x c'.H∧aO c'∧aG c' x v∧Grow c c')→R (.returned v) w')→∀ e w',p8 c (fun r H'=>p9 (k r H')) e w'→R e w':=fun hR e w' ⟨v,x,c',e1,e2,e3,e4,e5,e6⟩=>by
  subst e1;exact hR v w' ⟨x,c',e2,e3,e4,e5,e6⟩
 rcases h2 with⟨g,asv,w2,b1,b2⟩|⟨l,g,tmps,asn,bd,w2,b1,b2⟩
 ·have hrun:(execOp a.eval o).run P c.w= .ok (.enter g asv) w2:=by
   simp only[execOp,ho,Sem.run_bind,hres,Result.andThen_ok,b1]
  rw[hrun]
  refine⟨fun hh=>(by cases hh),CallsIn.mono (F:=FR ρ) b2 fun e w' he=>?_⟩
  obtain⟨v,x,c',rfl,rfl,e3,e4,e5,e6⟩:=he
  exact hk x c' v e3 e4 e5 e6
 ·have hrun:(execOp a.eval o).run P c.w= .ok (.round l g tmps asn bd) w2:=by
   simp only[execOp,ho,Sem.run_bind,hres,Result.andThen_ok,b1]
  rw[hrun]
  refine⟨fun hh=>(by cases hh),RoundIn.mono (F:=FR ρ) b2 fun e w' he=>?_⟩
  obtain⟨v,x,c',rfl,rfl,e3,e4,e5,e6⟩:=he
  exact hk x c' v e3 e4 e5 e6
theorem u7 (hT:aq P T) (hi:Inv G nt B c env a) (h:cH P G T own env c.H o.dst o.type o.op k)
 (hk:∀ x c' u,k x c'.H→aO c'→aG c' x u→Grow c c'→next (a.put o.dst u) c'.w):o.wpIn (FR ρ) 0 P a c.w next Q:=by
 cases ho:o.op with
 |move x=>rw[ho] at h;exact wp_move hi ho h hk
 |assign x=>rw[ho] at h;exact wp_assign hi ho h hk
 |pick x y z=>rw[ho] at h;exact Gs hi ho h hk
 |alloc t=>rw[ho] at h;exact Ez hT hi ho h hk
 |box t x=>rw[ho] at h;exact Ic hT hi ho h hk
 |build t x=>rw[ho] at h;exact wp_build hT hi ho h hk
 |buildSlice t n x=>rw[ho] at h;exact wp_buildSlice hT hi ho h hk
 |load t x=>rw[ho] at h;exact Gr hT hi ho h hk
 |store t x y=>rw[ho] at h;exact EG hT hi ho h hk
 |nilCheck x=>rw[ho] at h;exact yw hi ho h hk
 |binOp op t x y yt=>rw[ho] at h;exact EA hT hi ho h hk
 |unOp op t x=>rw[ho] at h;exact Gt hi ho h hk
 |convert s t x=>rw[ho] at h;exact zU hT hi ho h hk
 |makeFunc f x y=>rw[ho] at h;exact yu hi ho h hk
 |makeMap t r=>rw[ho] at h;cases r with
  |none=>exact zW hi ho h hk
  |some r=>exact h.elim
 |slice t x lo hi' mx=>rw[ho] at h;cases mx with
  |none=>exact EE hT hi ho h hk
  |some r=>cases hi' with
   |none=>exact h.elim
   |some q=>exact Cd hT hi ho h hk
 |makeSlice t x y=>rw[ho] at h;exact vL hT hi ho h hk
 |fieldAddr t x f=>rw[ho] at h;exact vJ hT hi ho h hk
 |field t x f=>rw[ho] at h;exact EB hT hi ho h hk
 |indexAddr t x i=>rw[ho] at h;exact vK hT hi ho h hk
 |index t x i=>rw[ho] at h;exact EC hT hi ho h hk
 |lookup t x i ok=>rw[ho] at h;exact Cc hT hi ho h hk
 |mapUpdate t m x y=>rw[ho] at h;exact n9 hT hi (.inl ho) h hk
 |insert t m x y=>rw[ho] at h;exact n9 (own:=own) hT hi (.inr ho) h hk
 |extract x i=>rw[ho] at h;exact zV hi ho h hk
 |call cl=>
  rw[ho] at h
  obtain⟨cal,args,tys⟩:=cl
  cases cal with
  |builtin b=>exact zT hT hi ho h hk
  |value f=>obtain⟨fv,h1,xs,h2,h3⟩:=h;exact Gq hi ho h1 h2 h3 hk
  |invoke r m=>exact h.elim
 |_=>rw[ho] at h;exact h.elim
end
end
section
abbrev Env:=List (Nat×SV)
def j5 (nt:Nat) (d:Option Nat) (x:SV) (env:Env) (k:Env→Prop):Prop:=
 match d with
 |some d=>bV (d<nt) (k ((d,x)::env))
 |none=>k env
def uD:SV→Option (Option Bool)
 | .bool b=>some (some b)
 | .undef=>some none
 |_=>none
def iu (P:Program) (G:Gl) (T:aT) (own:List Nat) (nt:Nat) (all:List Oper):List Oper→Env→List ax→(Env→List ax→Prop)→Prop
 |[],env,H,k=>k env H
 |o::r,env,H,k=>
  match o.guard with
  |none=>cH P G T own env H o.dst o.type o.op fun x H'=>j5 nt o.dst x env fun env'=>iu P G T own nt all r env' H' k
  |some (j,want)=>aI ((all[j]?).bind (·.dst)) fun d=>aI (look env d) fun v=>aI (uD v) fun g=>
   Br (g==some want) (cH P G T own env H o.dst o.type o.op fun x H'=>j5 nt o.dst x env fun env'=>iu P G T own nt all r env' H' k)
    (j5 nt o.dst .undef env fun env'=>iu P G T own nt all r env' H k)
@[congr] theorem H3 {nt:Nat} {d:Option Nat} {x x':SV} {env env':Env} {k:Env→Prop} (h1:x=x') (h2:env=env'):j5 nt d x env k=j5 nt d x' env' k:=by rw[h1,h2]
@[congr] theorem GI {P:Program} {G:Gl} {T:aT} {own:List Nat} {nt:Nat} {all l:List Oper} {env env':Env} {H H':List ax} {k:Env→List ax→Prop} (h1:env=env') (h2:H=H'):
 iu P G T own nt all l env H k=iu P G T own nt all l env' H' k:=by rw[h1,h2]
structure St where
 env:Env
 H:List ax
def dV (P:Program) (G:Gl) (nt:Nat) (ρ:Option Nat) (C:Cx) (cd:Code) (Q:Exit→St→Prop) (s:St):Prop:=
 ∀ c a,c.H=s.H→Inv G nt C.w.heap.size c s.env a→Grow C c→cd.wpIn (FR ρ) 0 P (fun e a' w'=>∃ s' c',Q e s'∧c'.H=s'.H∧c'.w=w'∧Inv G nt C.w.heap.size c' s'.env a'∧Grow C c') a c.w
@[congr] theorem Ig {P:Program} {G:Gl} {nt:Nat} {ρ:Option Nat} {C:Cx} {cd:Code} {Q:Exit→St→Prop} {s s':St} (h:s=s'):dV P G nt ρ C cd Q s=dV P G nt ρ C cd Q s':=by rw[h]
section
variable {P:Program} {G:Gl} {T:aT} {own:List Nat} {nt B:Nat} {ρ:Option Nat} {C:Cx}
theorem kg {c:Cx} {env:Env} {a:Act} (hi:Inv G nt B c env a) {ops:Array Oper} {j d:Nat} {v:SV} {g:Option Bool} (h1:(ops.toList[j]?).bind (·.dst)=some d) (h2:look env d=some v) (h3:uD v=some g):yielded ops a.tmps j=g:=by
 have hr:=hi.env d v h2
 unfold yielded
 rw[Array.getElem?_toList] at h1
 rw[h1,Option.bind_some]
 rw[Array.getD_eq_getD_getElem?] at hr
 cases v<;>simp only[uD,Option.some.injEq] at h3<;>try (cases h3;done)
 ·subst h3
  simp only[aG] at hr
  cases ht:a.tmps[d]? with
  |none=>rfl
  |some u=>rw[ht] at hr;simp only[Option.getD_some] at hr;rw[hr];rfl
 ·subst h3
  simp only[aG] at hr
  cases ht:a.tmps[d]? with
  |none=>rw[ht] at hr;simp[undef] at hr
  |some u=>rw[ht] at hr;simp only[Option.getD_some] at hr;rw[hr]
theorem kQ (hT:aq P T) {ops:Array Oper} {Q:Exit→Act→World→Prop} {k:Env→List ax→Prop}:∀ (m i:Nat),i+m=ops.size→∀ {c:Cx} {env:Env} {a:Act},Inv G nt B c env a→iu P G T own nt ops.toList (ops.toList.drop i) env c.H k→
 (∀ env' c' a',k env' c'.H→Inv G nt B c' env' a'→Grow c c'→Q .normal a' c'.w)→wpOpsIn (FR ρ) 0 P ops Q (List.range' i m) a c.w
 |0,i,hm,c,env,a,hi,h,hk=>by
  have:ops.toList.drop i=[]:=List.drop_eq_nil_of_le (by simp;omega)
  rw[this] at h
  exact hk env c a h hi (Grow.refl c)
 |m+1,i,hm,c,env,a,hi,h,hk=>by
  have hlt:i<ops.size:=by omega
  have hget:ops[i]? =some ops[i]:=Array.getElem?_eq_getElem hlt
  have hdrop:ops.toList.drop i=ops[i]::ops.toList.drop (i+1):=by
   rw[List.drop_eq_getElem_cons (by simpa using hlt)];simp
  rw[hdrop] at h
  simp only[List.range'_succ,wpOpsIn,hget]
  generalize ops[i]=o at h hget ⊢
  have run:cH P G T own env c.H o.dst o.type o.op (fun x H'=>j5 nt o.dst x env fun env'=>iu P G T own nt ops.toList (ops.toList.drop (i+1)) env' H' k)→o.wpIn (FR ρ) 0 P a c.w (wpOpsIn (FR ρ) 0 P ops Q (List.range' (i+1) m)) Q:=fun hx=>by
   refine u7 hT hi hx fun x c' u e1 e2 e3 e4=>?_
   cases hd:o.dst with
   |none=>
    rw[hd] at e1
    exact kQ hT m (i+1) (by omega) (hi.jA e4 e2) e1 fun env' c2 a' f1 f2 f3=>hk env' c2 a' f1 f2 (e4.trans f3)
   |some d=>
    rw[hd] at e1
    exact kQ hT m (i+1) (by omega) (hi.put e4 e2 e3 e1.1) e1.2 fun env' c2 a' f1 f2 f3=>hk env' c2 a' f1 f2 (e4.trans f3)
  simp only[iu] at h
  split at h
  ·rename_i hg
   simp only[Region.wanted,hg,if_true]
   exact run h
  ·rename_i j want hg
   obtain⟨d,h1,v,h2,g,h3,h4⟩:=h
   have hy:=kg hi h1 h2 h3
   simp only[Region.wanted,hg,hy]
   cases hgw:(g==some want) with
   |true=>
    rw[if_pos rfl]
    exact run (h4.1 hgw)
   |false=>
    rw[if_neg (by simp)]
    refine⟨fun _ _=>trivial,?_⟩
    have e1:=h4.2 hgw
    cases hd:o.dst with
    |none=>
     rw[hd] at e1
     exact kQ hT m (i+1) (by omega) (hi.jA (Grow.refl c) hi.heap) e1 hk
    |some d=>
     rw[hd] at e1
     exact kQ hT m (i+1) (by omega) (hi.put (Grow.refl c) hi.heap aG.undef e1.1) e1.2 hk
theorem dV.region (hT:aq P T) {id:Nat} {ops:Array Oper} {Q:Exit→St→Prop} {s:St} (h:iu P G T own nt ops.toList ops.toList s.env s.H fun env H=>Q .normal ⟨env,H⟩):dV P G nt ρ C (.region id ops false) Q s:=by
 intro c a hc hi hg
 refine wpIn_region ?_
 rw[List.range_eq_range']
 refine kQ hT (own:=own) (k:=fun env H=>Q .normal ⟨env,H⟩) ops.size 0 (by omega) hi (by rw[hc];simpa using h) fun env' c' a' e1 e2 e3=>?_
 exact⟨⟨env',c'.H⟩,c',e1,rfl,rfl,e2,hg.trans e3⟩
theorem dV.seq {x y:Code} {Q:Exit→St→Prop} {s:St} (h:dV P G nt ρ C x (fun e s'=>match e with
 | .normal=>dV P G nt ρ C y Q s'
 |e=>Q e s') s):dV P G nt ρ C (.seq x y) Q s:=by
 intro c a hc hi hg
 refine wpIn_seq (wpIn_mono (h c a hc hi hg) ?_)
 rintro e a' w' ⟨s',c',h1,h2,h3,h4,h5⟩
 cases e with
 |normal=>subst h3;exact h1 c' a' h2 h4 h5
 |_=>exact⟨s',c',h1,h2,h3,h4,h5⟩
theorem dV.skip {Q:Exit→St→Prop} {s:St} (h:Q .normal s):dV P G nt ρ C .skip Q s:=fun c a hc hi hg=>wpIn_skip ⟨s,c,h,hc,rfl,hi,hg⟩
theorem dV.ret {Q:Exit→St→Prop} {s:St} (h:Q .ret s):dV P G nt ρ C .ret Q s:=fun c a hc hi hg=>wpIn_ret ⟨s,c,h,hc,rfl,hi,hg⟩
theorem dV.exit {id:Nat} {Q:Exit→St→Prop} {s:St} (h:Q (.exit id) s):dV P G nt ρ C (.exit id) Q s:=fun c a hc hi hg=>wpIn_exit ⟨s,c,h,hc,rfl,hi,hg⟩
theorem dV.block {id:Nat} {x:Code} {Q:Exit→St→Prop} {s:St} (h:dV P G nt ρ C x (fun e s'=>match e with
 | .exit id'=>if id'=id then Q .normal s' else Q (.exit id') s'
 |e=>Q e s') s):dV P G nt ρ C (.block id x) Q s:=by
 intro c a hc hi hg
 refine wpIn_block (wpIn_mono (h c a hc hi hg) ?_)
 rintro e a' w' ⟨s',c',h1,h2,h3,h4,h5⟩
 cases e with
 |exit id'=>
  simp only[Exit.inBlock] at h1 ⊢
  split
  ·rename_i e;rw[if_pos e] at h1;exact⟨s',c',h1,h2,h3,h4,h5⟩
  ·rename_i e;rw[if_neg e] at h1;exact⟨s',c',h1,h2,h3,h4,h5⟩
 |_=>exact⟨s',c',h1,h2,h3,h4,h5⟩
theorem dV.cond {x:Operand} {p q:Code} {Q:Exit→St→Prop} {s:St} (h:aI (ev G s.env x) fun v=>aI (Hg v) fun g=>Br g (dV P G nt ρ C p Q s) (dV P G nt ρ C q Q s)):dV P G nt ρ C (.cond x p q) Q s:=by
 intro c a hc hi hg
 obtain⟨v,h1,g,h2,h3⟩:=h
 have hr:=bP hi h1
 rw[wc h2] at hr
 simp only[aG] at hr
 refine wpIn_cond hr ?_
 cases g with
 |true=>exact h3.1 rfl c a hc hi hg
 |false=>exact h3.2 rfl c a hc hi hg
theorem sL {F:Fence} {n:Nat} {c:Code} {Q:Exit→Act→World→Prop} {a:Act} {w:World} (I:Nat→Act→World→Prop) (N:Nat) (h₀:I N a w)
 (round:∀ j a w,I j a w→c.wpIn F n P (Exit.then (fun a' w'=>∃ i,i<j∧I i a' w') Q) a w):(Code.loop c).wpIn F n P Q a w:=by
 intro b k cs hro hb hr
 have key:∀ j a w,I j a w→
  ∃ e a' w',Q e a' w'∧ArrivesIn (Machine.fenced P F) P (lone (b.atR a (.code c:: .inLoop c::k)) cs w) b k cs e a' w':=by
  intro j
  induction j using Nat.strongRecOn with
  |_ j ih=>
   intro a w hI
   obtain⟨e,a₁,w₁,hq,harr⟩:=round j a w hI b (.inLoop c::k) cs hro hb hr
   cases e with
   |normal=>
    obtain⟨i,hlt,hI₁⟩:=hq
    obtain⟨e₂,a₂,w₂,hq₂,harr₂⟩:=ih i hlt a₁ w₁ hI₁
    exact⟨e₂,a₂,w₂,hq₂,.of_steps (StepsIn.trans harr (.one (fenced_calm hb hr rfl) stepR_inLoop)) harr₂⟩
   |exit id=>exact⟨_,a₁,w₁,hq,.pass (x:= .inLoop c) rfl (fun _ _=> .inl (by simp)) harr⟩
   |goto l=>exact⟨_,a₁,w₁,hq,.pass (x:= .inLoop c) rfl (fun _ _=> .inl (by simp)) harr⟩
   |ret=>exact⟨_,a₁,w₁,hq,.pass (x:= .inLoop c) rfl (fun _ _=> .inl (by simp)) harr⟩
   |panic ch=>exact⟨_,a₁,w₁,hq,.pass (x:= .inLoop c) rfl (fun _ _=> .inl (by simp)) harr⟩
   |outgrown=>exact⟨_,a₁,w₁,hq,.pass (x:= .inLoop c) rfl (fun _ _=> .inl (by simp)) harr⟩
 obtain⟨e,a',w',hq,harr⟩:=key N a w h₀
 exact⟨e,a',w',hq,.of_steps (.one (fenced_calm hb hr rfl) stepR_loop) harr⟩
theorem dV.loop {x:Code} {Q:Exit→St→Prop} {s:St} (I:Nat→St→Prop) (n:Nat) (h0:I n s)
 (round:∀ n s,I n s→dV P G nt ρ C x (fun e s'=>match e with
  | .normal=>∃ m,m<n∧I m s'
  |e=>Q e s') s):dV P G nt ρ C (.loop x) Q s:=by
 intro c a hc hi hg
 refine sL (fun m a' w'=>∃ s' c',I m s'∧c'.H=s'.H∧c'.w=w'∧Inv G nt C.w.heap.size c' s'.env a'∧Grow C c') n ⟨s,c,h0,hc,rfl,hi,hg⟩ ?_
 rintro j a w ⟨s',c',h1,h2,rfl,h3,h4⟩
 refine wpIn_mono (round j s' h1 c' a h2 h3 h4) ?_
 rintro e a' w' ⟨s2,c2,g1,g2,g3,g4,g5⟩
 cases e with
 |normal=>obtain⟨m,hm,g1⟩:=g1;exact⟨m,hm,s2,c2,g1,g2,g3,g4,g5⟩
 |_=>exact⟨s2,c2,g1,g2,g3,g4,g5⟩
theorem dV.mono {cd:Code} {Q Q':Exit→St→Prop} {s:St} (h:dV P G nt ρ C cd Q s) (hq:∀ e s',Q e s'→Q' e s'):dV P G nt ρ C cd Q' s:=by
 intro c a hc hi hg
 refine wpIn_mono (h c a hc hi hg) ?_
 rintro e a' w' ⟨s',c',h1,h2⟩
 exact⟨s',c',hq e s' h1,h2⟩
def II (P:Program) (G:Gl) (T:aT) (own:List Nat) (nt:Nat) (ρ:Option Nat) (C:Cx):Code→Env→List ax→(Exit→Env→List ax→Prop)→Prop
 | .skip,env,H,k=>k .normal env H
 | .label _,env,H,k=>k .normal env H
 | .ret,env,H,k=>k .ret env H
 | .exit id,env,H,k=>k (.exit id) env H
 | .cond x p q,env,H,k=>aI (ev G env x) fun v=>aI (Hg v) fun g=>Br g (II P G T own nt ρ C p env H k) (II P G T own nt ρ C q env H k)
 | .block id x,env,H,k=>II P G T own nt ρ C x env H fun e env' H'=>match e with
  | .exit id'=>if id'=id then k .normal env' H' else k (.exit id') env' H'
  |e=>k e env' H'
 | .region _ ops false,env,H,k=>iu P G T own nt ops.toList ops.toList env H fun env' H'=>k .normal env' H'
 |cd,env,H,k=>dV P G nt ρ C cd (fun e s=>k e s.env s.H) ⟨env,H⟩
omit T in
@[congr] theorem Ik {T:aT} {cd:Code} {env env':Env} {H H':List ax} {k:Exit→Env→List ax→Prop} (h1:env=env') (h2:H=H'):II P G T own nt ρ C cd env H k=II P G T own nt ρ C cd env' H' k:=by rw[h1,h2]
end
end
section
mutual
def SV.under (n:Nat):SV→Bool
 | .ptr id _ _ _=>decide (id<n)
 | .sl id _ _ _=>decide (id<n)
 | .map id=>decide (id<n)
 | .it id=>decide (id<n)
 | .agg fs=>SV.aB n fs
 | .list _ xs=>SV.aB n xs
 | .kC x=>SV.under n x
 | .fn _ xs ys=>SV.aB n xs&&SV.aB n ys
 | .tuple xs=>SV.aB n xs
 | .fe _ _ _ _ ks vs=>SV.aB n ks&&SV.aB n vs
 |_=>true
def SV.aB (n:Nat):List SV→Bool
 |[]=>true
 |x::xs=>SV.under n x&&SV.aB n xs
end
def cY (n:Nat):List (SV×SV)→Bool
 |[]=>true
 |p::r=>SV.under n p.1&&SV.under n p.2&&cY n r
def ax.under (n:Nat):ax→Bool
 | .cells _ _ vals=>SV.aB n vals
 | .map _ es=>cY n es
 |_=>true
def closed (H:List ax):Prop:=∀ B∈H,B.under H.length=true
theorem aG.my (c:Cx):(∀ x v,aG c x v→x.under c.H.length=true)∧(∀ xs vs,aC c xs vs→SV.aB c.H.length xs=true):=by
 have ref:∀ id:Nat,(c.H[id]? =none→False)→decide (id<c.H.length)=true:=fun id h=>by
  rw[decide_eq_true_eq]
  by_cases hh:id<c.H.length
  ·exact hh
  ·exact(h (List.getElem?_eq_none (by omega))).elim
 apply SV.both
 ·intro x h1 h2 h3 h4 h5 h6 v h
  cases x with
  |agg fs=>exact absurd rfl (h1 fs)
  |list n xs=>exact absurd rfl (h2 n xs)
  |kC y=>exact absurd rfl (h3 y)
  |fn f a b=>exact absurd rfl (h4 f a b)
  |tuple xs=>exact absurd rfl (h5 xs)
  |fe b clk born kd ks vs=>exact absurd rfl (h6 b clk born kd ks vs)
  |ptr id g i off=>simp only[aG] at h;exact ref id fun e=>by rw[e] at h;exact h.2
  |sl id g off len=>simp only[aG] at h;exact ref id fun e=>by rw[e] at h;exact h.2
  |map id=>simp only[aG] at h;exact ref id fun e=>by rw[e] at h;exact h.2
  |it id=>simp only[aG] at h;exact ref id fun e=>by rw[e] at h;exact h.2
  |_=>rfl
 ·intro fs ih v h
  simp only[aG] at h
  obtain⟨vs,h1,_⟩:=h
  exact ih vs h1
 ·intro sz xs ih v h
  simp only[aG] at h
  obtain⟨a,cap,_,_,_,h3⟩:=h
  rcases h3 with rfl|⟨b,o,vs,_,h4,_⟩
  ·rfl
  ·exact ih vs h4
 ·intro x ih v h
  simp only[aG] at h
  obtain⟨b,o,u,_,h1,_⟩:=h
  exact ih u h1
 ·intro f xs ys ih1 ih2 v h
  simp only[aG] at h
  obtain⟨us,vs,h0,h1,_⟩:=h
  simp only[SV.under,ih1 us h0,ih2 vs h1,Bool.and_self]
 ·intro xs ih v h
  simp only[aG] at h
  obtain⟨vs,h0,_⟩:=h
  exact ih vs h0
 ·intro b clk born kd ks vs ih1 ih2 v h
  simp only[aG] at h
  obtain⟨_,_,ents,_,_,_,h5,h6,_⟩:=h
  simp only[SV.under,ih1 _ h5,ih2 _ h6,Bool.and_self]
 ·intro vs h;rfl
 ·intro x xs ih1 ih2 vs h
  obtain⟨u,us,h1,h2,_⟩:=aC.ba.1 h
  simp only[SV.aB,ih1 u h1,ih2 us h2,Bool.and_self]
theorem aO.closed {c:Cx} (h:aO c):closed c.H:=by
 intro B hB
 obtain⟨id,hid,rfl⟩:=List.getElem_of_mem hB
 have hb:=h.ee id _ (List.getElem?_eq_getElem hid)
 cases hBB:c.H[id] with
 |dead=>rfl
 |obj _=>rfl
 |cells g sz vals=>
  rw[hBB] at hb
  rcases hb with⟨_,rfl⟩|⟨_,_,_,_,_,vs,_,_,_,h4,_⟩
  ·rfl
  ·exact(aG.my c).2 _ _ h4
 |map kd es=>
  rw[hBB] at hb
  obtain⟨_,ents,_,_,_,h4,_⟩:=hb
  have:∀ {es:List (SV×SV)} {l:List MapEntry},ck c es l→cY c.H.length es=true:=by
   intro es
   induction es with
   |nil=>intro l _;rfl
   |cons p es ih=>
    intro l h
    obtain⟨q,x⟩:=p
    simp only[ck] at h
    obtain⟨e,es',h1,h2,h3,_⟩:=h
    simp only[cY,(aG.my c).1 _ _ h1,(aG.my c).1 _ _ h2,ih h3,Bool.and_self]
  exact this h4
theorem aG.gL {θ:Nat→Option (Nat×Nat)} {H X:List ax} {w:World}:(∀ x v,aG ⟨θ,H++X,w⟩ x v→x.under H.length=true→aG ⟨θ,H,w⟩ x v)∧
 (∀ xs vs,aC ⟨θ,H++X,w⟩ xs vs→SV.aB H.length xs=true→aC ⟨θ,H,w⟩ xs vs):=by
 have hget:∀ id:Nat,decide (id<H.length)=true→(H++X)[id]? =H[id]? :=fun id h=>List.getElem?_append_left (by simpa using h)
 have himm:∀ b,Cx.oc ⟨θ,H++X,w⟩ b→Cx.oc ⟨θ,H,w⟩ b:=fun b ⟨h1,h2⟩=>⟨h1,fun⟨id,o,⟨B,hB,hl⟩,ht⟩=>h2 ⟨id,o,⟨B,(by
  have hlt:=(List.getElem?_eq_some_iff.1 hB).1
  show(H++X)[id]? =some B
  rw[List.getElem?_append_left hlt];exact hB),hl⟩,ht⟩⟩
 apply SV.both
 ·intro x h1 h2 h3 h4 h5 h6 v h hb
  cases x with
  |agg fs=>exact absurd rfl (h1 fs)
  |list n xs=>exact absurd rfl (h2 n xs)
  |kC y=>exact absurd rfl (h3 y)
  |fn f a b=>exact absurd rfl (h4 f a b)
  |tuple xs=>exact absurd rfl (h5 xs)
  |fe b clk born kd ks vs=>exact absurd rfl (h6 b clk born kd ks vs)
  |ptr id g i off=>simp only[aG,hget id hb] at h ⊢;exact h
  |sl id g off len=>simp only[aG,hget id hb] at h ⊢;exact h
  |map id=>simp only[aG,hget id hb] at h ⊢;exact h
  |it id=>simp only[aG,hget id hb] at h ⊢;exact h
  |_=>exact h
 ·intro fs ih v h hb
  simp only[aG] at h ⊢
  obtain⟨vs,h1,h2⟩:=h
  exact⟨vs,ih vs h1 hb,h2⟩
 ·intro sz xs ih v h hb
  simp only[aG] at h ⊢
  obtain⟨a,cap,h0,h1,h2,h3⟩:=h
  refine⟨a,cap,h0,h1,h2,?_⟩
  rcases h3 with h3|⟨b,o,vs,h3,h4,h5,h6,h7⟩
  ·exact .inl h3
  ·exact .inr ⟨b,o,vs,h3,ih vs h4 hb,h5,h6,himm b h7⟩
 ·intro x ih v h hb
  simp only[aG] at h ⊢
  obtain⟨b,o,u,h0,h1,h2,h3,h4⟩:=h
  exact⟨b,o,u,h0,ih u h1 hb,h2,h3,himm b h4⟩
 ·intro f xs ys ih1 ih2 v h hb
  simp only[SV.under,Bool.and_eq_true] at hb
  simp only[aG] at h ⊢
  obtain⟨us,vs,h0,h1,h2⟩:=h
  exact⟨us,vs,ih1 us h0 hb.1,ih2 vs h1 hb.2,h2⟩
 ·intro xs ih v h hb
  simp only[aG] at h ⊢
  obtain⟨vs,h0,h1⟩:=h
  exact⟨vs,ih vs h0 hb,h1⟩
 ·intro b clk born kd ks vs ih1 ih2 v h hb
  simp only[SV.under,Bool.and_eq_true] at hb
  simp only[aG] at h ⊢
  obtain⟨h0,h1,ents,h2,h3,h4,h5,h6,h7⟩:=h
  exact⟨h0,himm b h1,ents,h2,h3,h4,ih1 _ h5 hb.1,ih2 _ h6 hb.2,h7⟩
 ·intro vs h _;simpa [aC] using h
 ·intro x xs ih1 ih2 vs h hb
  simp only[SV.aB,Bool.and_eq_true] at hb
  obtain⟨u,us,h1,h2,h3⟩:=aC.ba.1 h
  exact aC.ba.2 ⟨u,us,ih1 u h1 hb.1,ih2 us h2 hb.2,h3⟩
theorem Cx.cut {θ:Nat→Option (Nat×Nat)} {H X:List ax} {w:World} (hc:aO ⟨θ,H++X,w⟩) (hcl:closed H):aO ⟨θ,H,w⟩∧∀ C:Cx,C.H.length≤H.length→Grow C ⟨θ,H++X,w⟩→Grow C ⟨θ,H,w⟩:=by
 have hget:∀ (id:Nat) (B:ax),H[id]? =some B→(H++X)[id]? =some B:=fun id B h=>by
  rw[List.getElem?_append_left (List.getElem?_eq_some_iff.1 h).1];exact h
 refine⟨⟨fun id B hB=>?_,fun i j b o o' ⟨Bi,h1,h2⟩ ⟨Bj,h3,h4⟩ h5 h6=>hc.inj i j b o o' ⟨Bi,hget i Bi h1,h2⟩ ⟨Bj,hget j Bj h3,h4⟩ h5 h6⟩,fun C hC hg=>?_⟩
 ·have hb:=hc.ee id B (hget id B hB)
  have hbel:=hcl B (List.mem_of_getElem? hB)
  cases B with
  |dead=>trivial
  |obj o=>exact hb
  |cells g sz vals=>
   rcases hb with hb|⟨b,o,cs,T,fr,vs,h1,h2,h3,h4,h5,h6⟩
   ·exact .inl hb
   ·exact .inr ⟨b,o,cs,T,fr,vs,h1,h2,h3,aG.gL.2 _ _ h4 hbel,h5,h6⟩
  |map kd es=>
   obtain⟨b,ents,clk,h1,h2,h3,h4⟩:=hb
   have hE:∀ {es:List (SV×SV)} {l:List MapEntry},ck ⟨θ,H++X,w⟩ es l→cY H.length es=true→ck ⟨θ,H,w⟩ es l:=by
    intro es
    induction es with
    |nil=>intro l h _;exact h
    |cons p es ih=>
     intro l h hb
     obtain⟨q,x⟩:=p
     simp only[ck] at h ⊢
     simp only[cY,Bool.and_eq_true] at hb
     obtain⟨e,es',a1,a2,a3,a4⟩:=h
     exact⟨e,es',aG.gL.1 _ _ a1 hb.1.1,aG.gL.1 _ _ a2 hb.1.2,ih a3 hb.2,a4⟩
   exact⟨b,ents,clk,h1,h2,hE h3 hbel,h4⟩
 ·refine⟨hg.os,hg.tape,hg.output,hg.size,hg.gi,hg.shape,fun id B hB=>?_,fun id b o hn hl ht=>?_⟩
  ·obtain⟨B',h1,h2⟩:=hg.ids id B hB
   have hlt:id<H.length:=Nat.lt_of_lt_of_le (List.getElem?_eq_some_iff.1 hB).1 hC
   have h1':(H++X)[id]? =some B':=h1
   rw[List.getElem?_append_left hlt] at h1'
   exact⟨B',h1',h2⟩
  ·obtain⟨B,h1,h2⟩:=hl
   exact hg.new id b o hn ⟨B,hget id B h1,h2⟩ ht
section
variable {P:Program} {G:Gl} {T:aT} {own:List Nat} {nt B:Nat} {ρ:Option Nat} {C:Cx}
def Wk (G:Gl) (nt:Nat) (C:Cx) (s s2:St):Prop:=
 ∀ c a,c.H=s.H→Inv G nt C.w.heap.size c s.env a→Grow C c→∃ c',c'.H=s2.H∧c'.w=c.w∧Inv G nt C.w.heap.size c' s2.env a∧Grow C c'
def au (G:Gl):Prop:=∀ p∈G.l,SV.under 0 p.2=true
theorem SV.bW {n m:Nat} (h:n≤m):(∀ x:SV,x.under n=true→x.under m=true)∧(∀ xs:List SV,SV.aB n xs=true→SV.aB m xs=true):=by
 apply SV.both
 ·intro x h1 h2 h3 h4 h5 h6 hb
  cases x with
  |agg fs=>exact absurd rfl (h1 fs)
  |list n xs=>exact absurd rfl (h2 n xs)
  |kC y=>exact absurd rfl (h3 y)
  |fn f a b=>exact absurd rfl (h4 f a b)
  |tuple xs=>exact absurd rfl (h5 xs)
  |fe b clk born kd ks vs=>exact absurd rfl (h6 b clk born kd ks vs)
  |ptr id g i off=>simp only[SV.under,decide_eq_true_eq] at hb ⊢;omega
  |sl id g off len=>simp only[SV.under,decide_eq_true_eq] at hb ⊢;omega
  |map id=>simp only[SV.under,decide_eq_true_eq] at hb ⊢;omega
  |it id=>simp only[SV.under,decide_eq_true_eq] at hb ⊢;omega
  |_=>rfl
 ·intro fs ih hb;exact ih hb
 ·intro n xs ih hb;exact ih hb
 ·intro x ih hb;exact ih hb
 ·intro f a b ih1 ih2 hb
  simp only[SV.under,Bool.and_eq_true] at hb ⊢
  exact⟨ih1 hb.1,ih2 hb.2⟩
 ·intro xs ih hb;exact ih hb
 ·intro b clk born kd ks vs ih1 ih2 hb
  simp only[SV.under,Bool.and_eq_true] at hb ⊢
  exact⟨ih1 hb.1,ih2 hb.2⟩
 ·intro _;rfl
 ·intro x xs ih1 ih2 hb
  simp only[SV.aB,Bool.and_eq_true] at hb ⊢
  exact⟨ih1 hb.1,ih2 hb.2⟩
theorem Wk.cut (hG:au G) {env env2:Env} {H X:List ax} (hB:eS G H.length) (hC:C.H.length≤H.length) (hcl:closed H) (he:∀ t x,look env2 t=some x→look env t=some x∧x.under H.length=true):Wk G nt C ⟨env,H++X⟩ ⟨env2,H⟩:=by
 rintro⟨θ,Hc,w⟩ a hc hi hg
 simp only at hc
 subst hc
 obtain⟨h1,h2⟩:=Cx.cut hi.heap hcl
 refine⟨⟨θ,H,w⟩,rfl,rfl,⟨h1,⟨fun p hp=>aG.gL.1 _ _ (hi.gn.1 p hp) ((SV.bW (Nat.zero_le _)).1 _ (hG p hp)),fun C0 h0=>h2 C0 (hB C0 h0) (hi.gn.2 C0 h0)⟩,hi.size,fun t x hx=>?_,?_⟩,h2 C hC hg⟩
 ·obtain⟨e1,e2⟩:=he t x hx
  exact aG.gL.1 _ _ (hi.env t x e1) e2
 ·refine⟨fun d hd=>?_,hi.gm.2⟩
  obtain⟨r,q1,q2,q3,q4⟩:=hi.gm.1 d hd
  refine⟨r,q1,q2,⟨q3.1,fun⟨id,o,⟨B,hB,hl⟩,ht⟩=>q3.2 ⟨id,o,⟨B,?_,hl⟩,ht⟩⟩,q4⟩
  show(H++X)[id]? =some B
  rw[List.getElem?_append_left (List.getElem?_eq_some_iff.1 hB).1];exact hB
theorem Wk.env {env env2:Env} {H:List ax} (he:∀ t x,look env2 t=some x→look env t=some x):Wk G nt C ⟨env,H⟩ ⟨env2,H⟩:=
 fun c a hc hi hg=>⟨c,hc,rfl,⟨hi.heap,hi.gn,hi.size,fun t x hx=>hi.env t x (he t x hx),hi.gm⟩,hg⟩
theorem dV.wk {cd:Code} {Q:Exit→St→Prop} {s s2:St} (hw:Wk G nt C s s2) (h:dV P G nt ρ C cd Q s2):dV P G nt ρ C cd Q s:=by
 intro c a hc hi hg
 obtain⟨c',e1,e2,e3,e4⟩:=hw c a hc hi hg
 rw[← e2]
 exact h c' a e1 e3 e4
theorem dV.GR {x:Code} {Q:Exit→St→Prop} {s:St} (I:Nat→St→Prop) (n:Nat) (s0:St) (hs:Wk G nt C s s0) (h0:I n s0)
 (round:∀ n s,I n s→dV P G nt ρ C x (fun e s'=>match e with
  | .normal=>∃ m s2,m<n∧Wk G nt C s' s2∧I m s2
  |e=>Q e s') s):dV P G nt ρ C (.loop x) Q s:=by
 refine dV.wk hs ?_
 intro c a hc hi hg
 refine sL (fun m a' w'=>∃ s' c',I m s'∧c'.H=s'.H∧c'.w=w'∧Inv G nt C.w.heap.size c' s'.env a'∧Grow C c') n ⟨s0,c,h0,hc,rfl,hi,hg⟩ ?_
 rintro j a w ⟨s',c',h1,h2,rfl,h3,h4⟩
 refine wpIn_mono (round j s' h1 c' a h2 h3 h4) ?_
 rintro e a' w' ⟨s2,c2,g1,g2,g3,g4,g5⟩
 cases e with
 |normal=>
  obtain⟨m,s3,hm,hwk,g1⟩:=g1
  obtain⟨c3,e1,e2,e3,e4⟩:=hwk c2 a' g2 g4 g5
  exact⟨m,hm,s3,c3,g1,e1,e2.trans g3,e3,e4⟩
 |_=>exact⟨s2,c2,g1,g2,g3,g4,g5⟩
end
end
section
theorem wu {w:World} {b r:Nat} {cs:Array Value} {T:TypeId} {fr:Nat×Nat} {ds:Option (List Deferred)} (h:w.heap[b]? =some (.cells cs T fr)) (hr:w.heap[r]? =some (.deferred ds)):b≠r:=fun e=>by rw[e,hr] at h;cases h
theorem cO (w:World) (r b:Nat) (o:Obj) (h:b≠r):(w.putObj r o).heap[b]? =w.heap[b]? :=World.putObj_heap_other h
theorem j8 {w:World} {b o r:Nat} {cs:List Value} {ds:Option (List Deferred)} (h:w.rangeAt b o cs) (hr:w.heap[r]? =some (.deferred ds)) (o':Obj):(w.putObj r o').rangeAt b o cs:=fun j v hv=>by
 have hc:=h j v hv
 have hb:b≠r:=fun e=>by subst e;simp[World.cell?,hr] at hc
 rw[World.cell?_of_block (w:=w) (w':=w.putObj r o') (cO w r b o' hb)]
 exact hc
theorem aG.lV {θ:Nat→Option (Nat×Nat)} {H:List ax} {w:World} {r:Nat} {ds:Option (List Deferred)} (hr:w.heap[r]? =some (.deferred ds)) (o':Obj):
 (∀ x v,aG ⟨θ,H,w⟩ x v→aG ⟨θ,H,w.putObj r o'⟩ x v)∧(∀ xs vs,aC ⟨θ,H,w⟩ xs vs→aC ⟨θ,H,w.putObj r o'⟩ xs vs):=by
 have hsz:(w.putObj r o').heap.size=w.heap.size:=by simp[World.putObj]
 have himm:∀ b,Cx.oc ⟨θ,H,w⟩ b→Cx.oc ⟨θ,H,w.putObj r o'⟩ b:=fun b ⟨h1,h2⟩=>⟨by show b<(w.putObj r o').heap.size;rw[hsz];exact h1,h2⟩
 apply SV.both
 ·intro x h1 h2 h3 h4 h5 h6 v h
  cases x with
  |agg fs=>exact absurd rfl (h1 fs)
  |list n xs=>exact absurd rfl (h2 n xs)
  |kC y=>exact absurd rfl (h3 y)
  |fn f a b=>exact absurd rfl (h4 f a b)
  |tuple xs=>exact absurd rfl (h5 xs)
  |fe b clk born kd ks vs=>exact absurd rfl (h6 b clk born kd ks vs)
  |sl id g off len=>
   simp only[aG] at h ⊢
   refine⟨h.1,?_⟩
   have h:=h.2
   cases hB:H[id]? with
   |none=>simp[hB] at h
   |some B=>
    simp only[hB] at h
    cases B with
    |cells g' sz vals=>
     simp only at h ⊢
     rcases h with h|⟨e,q1,aa,cap,q2,q3,q4,q5⟩
     ·exact .inl h
     ·refine .inr ⟨e,q1,aa,cap,q2,q3,q4,?_⟩
      rcases q5 with q5|⟨b,o,cs,T,fr,q5,q6,q7,q8⟩
      ·exact .inl q5
      ·exact .inr ⟨b,o,cs,T,fr,q5,q6,by rw[cO w r b o' (wu q7 hr)];exact q7,q8⟩
    |_=>exact h
  |_=>exact h
 ·intro fs ih v h
  simp only[aG] at h ⊢
  obtain⟨vs,h1,h2⟩:=h
  exact⟨vs,ih vs h1,h2⟩
 ·intro sz xs ih v h
  simp only[aG] at h ⊢
  obtain⟨a,cap,h0,h1,h2,h3⟩:=h
  refine⟨a,cap,h0,h1,h2,?_⟩
  rcases h3 with h3|⟨b,o,vs,h3,h4,h5,h6,h7⟩
  ·exact .inl h3
  ·exact .inr ⟨b,o,vs,h3,ih vs h4,h5,j8 h6 hr o',himm b h7⟩
 ·intro x ih v h
  simp only[aG] at h ⊢
  obtain⟨b,o,u,h0,h1,h2,h3,h4⟩:=h
  exact⟨b,o,u,h0,ih u h1,h2,j8 h3 hr o',himm b h4⟩
 ·intro f xs ys ih1 ih2 v h
  simp only[aG] at h ⊢
  obtain⟨us,vs,h0,h1,h2⟩:=h
  exact⟨us,vs,ih1 us h0,ih2 vs h1,h2⟩
 ·intro xs ih v h
  simp only[aG] at h ⊢
  obtain⟨vs,h0,h1⟩:=h
  exact⟨vs,ih vs h0,h1⟩
 ·intro b clk born kd ks vs ih1 ih2 v h
  simp only[aG] at h ⊢
  obtain⟨h0,h1,ents,h2,h3,h4,h5,h6,h7⟩:=h
  exact⟨h0,himm b h1,ents,by rw[cO w r b o' (fun e=>by rw[e] at h2;rw[hr] at h2;cases h2)];exact h2,h3,h4,ih1 _ h5,ih2 _ h6,h7⟩
 ·intro vs h;simpa [aC] using h
 ·intro x xs ih1 ih2 vs h
  obtain⟨u,us,h1,h2,h3⟩:=aC.ba.1 h
  exact aC.ba.2 ⟨u,us,ih1 u h1,ih2 us h2,h3⟩
theorem Cx.M7 {θ:Nat→Option (Nat×Nat)} {H:List ax} {w:World} (hc:aO ⟨θ,H,w⟩) {r:Nat} {ds:Option (List Deferred)} (hr:w.heap[r]? =some (.deferred ds)) (him:Cx.oc ⟨θ,H,w⟩ r) (o':Obj):
 aO ⟨θ,H,w.putObj r o'⟩∧∀ C:Cx,C.w.heap.size≤r→Grow C ⟨θ,H,w⟩→Grow C ⟨θ,H,w.putObj r o'⟩:=by
 have hsz:(w.putObj r o').heap.size=w.heap.size:=by simp[World.putObj]
 refine⟨⟨fun id B hB=>?_,hc.inj⟩,fun C hC hg=>?_⟩
 ·have hb:=hc.ee id B hB
  have hne:∀ b o,B.isLive=true→θ id=some (b,o)→b≠r:=fun b o hl ht e=>him.2 ⟨id,o,⟨B,hB,hl⟩,e ▸ ht⟩
  cases B with
  |dead=>trivial
  |obj ob=>obtain⟨b,h1,h2,h3⟩:=hb;exact⟨b,h1,by rw[show(w.putObj r o').heap[b]? =w.heap[b]? from cO w r b o' (hne b 0 rfl h1)];exact h2,h3⟩
  |cells g sz vals=>
   rcases hb with hb|⟨b,o,cs,T,fr,vs,h1,h2,h3,h4,h5,h6⟩
   ·exact .inl hb
   ·exact .inr ⟨b,o,cs,T,fr,vs,h1,by rw[show(w.putObj r o').heap[b]? =w.heap[b]? from cO w r b o' (hne b o rfl h1)];exact h2,h3,(aG.lV hr o').2 _ _ h4,h5,j8 h6 hr o'⟩
  |map kd es=>
   obtain⟨b,ents,clk,h1,h2,h3,h4⟩:=hb
   have hE:∀ {es:List (SV×SV)} {l:List MapEntry},ck ⟨θ,H,w⟩ es l→ck ⟨θ,H,w.putObj r o'⟩ es l:=by
    intro es
    induction es with
    |nil=>intro l h;exact h
    |cons p es ih=>
     intro l h
     obtain⟨q,x⟩:=p
     simp only[ck] at h ⊢
     obtain⟨e,es',a1,a2,a3,a4⟩:=h
     exact⟨e,es',(aG.lV hr o').1 _ _ a1,(aG.lV hr o').1 _ _ a2,ih a3,a4⟩
   exact⟨b,ents,clk,h1,by rw[show(w.putObj r o').heap[b]? =w.heap[b]? from cO w r b o' (hne b 0 rfl h1)];exact h2,hE h3,h4⟩
 ·refine⟨hg.os,hg.tape,hg.output,by show _≤(w.putObj r o').heap.size;rw[hsz];exact hg.size,fun b hb ho=>?_,fun b cs T fr h=>?_,hg.ids,hg.new⟩
  ·show(w.putObj r o').heap[b]? =_
   rw[cO w r b o' (by omega)];exact hg.gi b hb ho
  ·obtain⟨cs',fr',h1,h2⟩:=hg.shape b cs T fr h
   exact⟨cs',fr',by show(w.putObj r o').heap[b]? =_;rw[cO w r b o' (wu h1 hr)];exact h1,h2⟩
def hZ (T:aT) (env:Env) (H:List ax):List ResultVar→Option (List SV)
 |[]=>some []
 | .tmp t::r=>match look env t with
  |some x=>(match hZ T env H r with
   |some xs=>some (x::xs)
   |none=>none)
  |none=>none
 | .cell t ty::r=>match look env t with
  |some p=>(match T.get ty with
   |some i=>(match lr H i p with
    |some x=>(match hZ T env H r with
     |some xs=>some (x::xs)
     |none=>none)
    |none=>none)
   |none=>none)
  |none=>none
def bq:List SV→SV
 |[x]=>x
 |xs=> .tuple xs
def Fin (C:Cx) (H:List ax) (x:SV) (R:SV→List ax→Prop):Prop:=
 ∀ c v,c.H=H→aO c→aG c x v→Grow C c→∃ c' y,c'.w=c.w∧R y c'.H∧aO c'∧aG c' y v∧Grow C c'
def Iw (C:Cx) (T:aT) (rs:List ResultVar) (R:SV→List ax→Prop) (e:Exit) (env:Env) (H:List ax):Prop:=
 match e with
 | .normal| .ret=>aI (hZ T env H rs) fun xs=>p9 (Fin C H (bq xs) R)
 |_=>False
def ap:List SV→Nat→Env
 |[],_=>[]
 |x::r,i=>(i,x)::ap r (i+1)
section
variable {P:Program} {G:Gl} {T:aT} {own:List Nat} {nt B:Nat} {ρ:Option Nat} {C:Cx} {c:Cx} {env:Env} {a:Act}
def Cj (w w':World):Prop:=∀ r:Nat,w'.heap[r]? =w.heap[r]? ∨∃ ds0:Option (List Deferred),w.heap[r]? =some (Obj.deferred ds0)
theorem vA {w w':World} (hw:Cj w w') {b o:Nat} {cs:List Value} (h:w.rangeAt b o cs):w'.rangeAt b o cs:=fun j v hv=>by
 have hc:=h j v hv
 rcases hw b with e|⟨ds,e⟩
 ·rw[World.cell?_of_block (w:=w) (w':=w') e];exact hc
 ·simp[World.cell?,e] at hc
def rU (tmps:Array Value):ResultVar→Sem Value
 | .tmp t=>pure (tmps.getD t undef)
 | .cell x t=>do loadVar t (← asAddr (tmps.getD x undef))
theorem zE (fn:Func) (tmps:Array Value):results fn tmps=(do
 let vs ← fn.results.mapM (rU tmps)
 pure (if h:vs.size=1 then vs[0] else .tuple vs)):=by
 refine congrArg (fun f:ResultVar→Sem Value=>(do
  let vs ← fn.results.mapM f
  pure (if h:vs.size=1 then vs[0] else Value.tuple vs):Sem Value)) ?_
 funext r
 cases r<;>rfl
theorem vC (hT:aq P T) (hi:Inv G nt B c env a):∀ {rs:List ResultVar} {xs:List SV},hZ T env c.H rs=some xs→∃ vs,aC c xs vs∧∀ w',Cj c.w w'→
 (rs.mapM (rU a.tmps)).run P w'= .ok vs w'
 |[],xs,h=>by simp only[hZ,Option.some.injEq] at h;subst h;exact⟨[],aC.bX,fun w' _=>by simp⟩
 | .tmp t::r,xs,h=>by
  simp only[hZ] at h
  split at h
  ·rename_i x hx
   split at h
   ·rename_i ys hy
    cases h
    obtain⟨vs,h1,h2⟩:=vC hT hi hy
    exact⟨_::vs,aC.bB (hi.env t x hx) h1,fun w' hw=>by simp[List.mapM_cons,rU,h2 w' hw]⟩
   ·cases h
  ·cases h
 | .cell t ty::r,xs,h=>by
  simp only[hZ] at h
  split at h
  ·rename_i p hp
   split at h
   ·rename_i i hti
    split at h
    ·rename_i x hx
     split at h
     ·rename_i ys hy
      cases h
      obtain⟨vs,h1,h2⟩:=vC hT hi hy
      obtain⟨b,o,u,e1,e2,e3,e4⟩:=AG hi.heap (hi.env t p hp) hx
      exact⟨u::vs,aC.bB e2 h1,fun w' hw=>by
       have hl:=lC (hT _ _ hti) e2 e3 (vA hw e4)
       simp[List.mapM_cons,rU,e1,asAddr,hl,h2 w' hw]⟩
     ·cases h
    ·cases h
   ·cases h
  ·cases h
theorem tL {fn:Func} {R:SV→List ax→Prop} {C0:Cx}:∀ (ds:List Deferred) (c:Cx),aO c→mT C0.w.heap.size c ds→Grow C0 c→∀ (x:SV) (v:Value) (tmps:Array Value),aG c x v→R x c.H→
 (∀ w',Cj c.w w'→(results fn tmps).run P w'= .ok v w')→
 LeavesInM (FR none) 0 P fn tmps (p8 C0 R) ds .returning c.w
 |[],c,hc,hd,hg,x,v,tmps,hx,hR,hrun=>⟨v,hrun c.w (fun r=> .inl rfl),v,x,c,rfl,rfl,hR,hc,hx,hg⟩
 |d::ds,c,hc,hd,hg,x,v,tmps,hx,hR,hrun=>by
  obtain⟨r,rfl,h1,h2,h3⟩:=hd.1 d (List.mem_cons_self ..)
  obtain⟨θ,H,w⟩:=c
  have hp:=Cx.M7 hc h1 h2 (.deferred none)
  refine⟨by simp,.inl ⟨r,w.putObj r (.deferred none),rfl,run_takeDeferred h1,?_⟩⟩
  have hd':mT C0.w.heap.size ⟨θ,H,w.putObj r (.deferred none)⟩ ds:=by
   have hpw:=List.pairwise_cons.1 hd.2
   refine⟨fun d' hd'=>?_,hpw.2⟩
   obtain⟨r',q1,q2,q3,q4⟩:=hd.1 d' (List.mem_cons_of_mem _ hd')
   have hne:r'≠r:=fun e=>hpw.1 d' hd' r rfl (by rw[q1,e])
   refine⟨r',q1,?_,⟨?_,q3.2⟩,q4⟩
   ·show(w.putObj r _).heap[r']? =_
    rw[cO w r r' _ hne];exact q2
   ·show r'<(w.putObj r _).heap.size
    have:=q3.1
    simpa [World.putObj] using this
  refine tL ds ⟨θ,H,w.putObj r (.deferred none)⟩ hp.1 hd' (hp.2 C0 h3 hg) x v tmps ((aG.lV h1 _).1 _ _ hx) hR fun w' hw'=>hrun w' fun r'=>?_
  by_cases e:r'=r
  ·exact .inr ⟨_,by rw[e];exact h1⟩
  ·rcases hw' r' with h|⟨ds0,h⟩
   ·left;rw[h];exact cO w r r' _ e
   ·right;exact⟨ds0,by rw[← h];exact(cO w r r' _ e).symm⟩
theorem ri:∀ {xs:List SV} {vs:List Value} {i:Nat} {t:Nat} {x:SV},aC c xs vs→look (ap xs i) t=some x→∃ j,t=i+j∧∃ v,vs[j]? =some v∧aG c x v
 |[],vs,i,t,x,_,h=>by cases h
 |y::xs,vs,i,t,x,hr,h=>by
  obtain⟨u,us,h1,h2,rfl⟩:=aC.ba.1 hr
  simp only[ap,look] at h
  split at h
  ·rename_i e;cases h;exact⟨0,e,u,rfl,h1⟩
  ·obtain⟨j,e,v,h3,h4⟩:=ri h2 h
   exact⟨j+1,by omega,v,by simpa using h3,h4⟩
theorem af.D1 (hT:aq P T) {f:FuncId} {fn:Func} {cd:Code} {args:List SV} {H:List ax} {R:SV→List ax→Prop} (hf:P.funcs[f]? =some fn) (hb:fn.body=some cd) (hname:(fn.name== "runtime.NumGoroutine")=false)
 (hnt:fn.ntmps=nt) (hlen:args.length≤nt) {rs:List ResultVar} (hrs:fn.results.toList=rs)
 (h:∀ C:Cx,C.H=H→closed H→eS G C.H.length→dV P G nt none C cd (fun e s=>Iw C T rs R e s.env s.H) ⟨ap args 0,H⟩):af P G f args H R:=by
 refine⟨⟨fn,hf,hname,by rw[hb];rfl⟩,fun c vs hH hc hG hv=>?_⟩
 have hcl:closed H:=hH ▸ hc.closed
 refine callsIn_of_wp_marks hf hb trivial ?_ rfl
 have hvl:vs.length=args.length:=hv.length
 have hinv:Inv G nt c.w.heap.size c (ap args 0) { tmps:=vs.toArray++Array.replicate (fn.ntmps - vs.toArray.size) undef,defers:=[]}:=by
  refine⟨hc,hG,by simp;omega,fun t x hx=>?_,⟨by simp,List.Pairwise.nil⟩⟩
  obtain⟨j,e,v,h1,h2⟩:=ri hv hx
  have hj:j<vs.length:=(List.getElem?_eq_some_iff.1 h1).1
  have:(vs.toArray++Array.replicate (fn.ntmps - vs.toArray.size) undef).getD t undef=v:=by
   rw[Array.getD_eq_getD_getElem?,Array.getElem?_append_left (by simp;omega)]
   rw[e,Nat.zero_add,List.getElem?_toArray,h1];rfl
  rw[this];exact h2
 have hA:=h c hH hcl hG.Gz c _ hH hinv (Grow.refl c)
 refine wpIn_mono hA ?_
 rintro e a' w' ⟨⟨env',H'⟩,c',h1,h2,rfl,h3,h4⟩
 have fin:aI (hZ T env' H' rs) (fun xs=>p9 (Fin c H' (bq xs) R))→LeavesInM (FR none) 0 P fn a'.tmps (p8 c R) a'.defers .returning c'.w:=fun hq=>by
  obtain⟨xs,q1,q2⟩:=hq
  simp only at h2
  rw[← h2] at q1 q2
  obtain⟨vs',k1,k2⟩:=vC hT h3 q1
  have hval:aG c' (bq xs) (if hs:vs'.toArray.size=1 then vs'.toArray[0] else .tuple vs'.toArray):=by
   have hl:=k1.length
   cases xs with
   |nil=>rw[aC.dk.1 k1];simp only[bq,aG];exact⟨[],aC.bX,by simp⟩
   |cons x xs=>
    cases xs with
    |nil=>
     obtain⟨u,us,e1,e2,rfl⟩:=aC.ba.1 k1
     rw[aC.dk.1 e2]
     simpa [bq] using e1
    |cons y ys=>
     have:¬ vs'.toArray.size=1:=by simp at hl ⊢;omega
     rw[dif_neg this]
     simp only[bq,aG]
     exact⟨vs',k1,rfl⟩
  obtain⟨c2,y,e1,e2,e3,e4,e5⟩:=q2 c' _ rfl h3.heap hval h4
  rw[← e1]
  have hdef:mT c.w.heap.size c2 a'.defers:=by
   refine⟨fun d hd=>?_,h3.gm.2⟩
   obtain⟨r,g1,g2,g3,g4⟩:=h3.gm.1 d hd
   rw[← e1] at g2
   refine⟨r,g1,g2,⟨by rw[e1];exact g3.1,?_⟩,g4⟩
   rintro⟨id,o,⟨B,hB,hl⟩,ht⟩
   have hb:=e3.ee id B hB
   cases B with
   |dead=>cases hl
   |obj ob=>obtain⟨b,q1,q2,q3⟩:=hb;rw[ht] at q1;cases q1;rw[g2] at q2;cases q2;exact q3 _ rfl
   |map _ _=>obtain⟨b,_,_,q1,q2,_⟩:=hb;rw[ht] at q1;cases q1;rw[g2] at q2;cases q2
   |cells _ _ _=>
    rcases hb with⟨q1,_⟩|⟨b,_,_,_,_,_,q1,q2,_⟩
    ·rw[ht] at q1;cases q1
    ·rw[ht] at q1;cases q1;rw[g2] at q2;cases q2
  refine tL a'.defers c2 e3 hdef e5 y _ a'.tmps e4 e2 fun w2 hw2=>?_
  rw[e1] at hw2
  have hrun:=k2 w2 hw2
  have:(fn.results.mapM (rU a'.tmps)).run P w2= .ok vs'.toArray w2:=by
   rw[Array.mapM_eq_mapM_toList,hrs,Sem.run_map,hrun];rfl
  rw[zE,Sem.run_bind,this]
  rfl
 cases e with
 |normal=>exact fin h1
 |ret=>exact fin h1
 |_=>exact h1.elim
end
def Told (x y:SV):Prop:=y=x∨(x= .nil∧∃ n,y= .list n [])
def kh:List SV→List SV→Prop
 |[],[]=>True
 |x::xs,y::ys=>Told x y∧kh xs ys
 |_,_=>False
theorem Told.rep {c:Cx} {x y:SV} {v:Value} (h:Told x y) (hr:aG c x v):aG c y v:=by
 rcases h with rfl|⟨rfl,n,rfl⟩
 ·exact hr
 ·simp only[aG] at hr ⊢
  exact⟨none,0,hr,Nat.le_refl _,Nat.zero_le _,by simp⟩
theorem kh.rep {c:Cx}:∀ {xs ys:List SV} {vs:List Value},kh xs ys→aC c xs vs→aC c ys vs
 |[],[],vs,_,hr=>hr
 |x::xs,y::ys,vs,h,hr=>by
  obtain⟨u,us,h1,h2,rfl⟩:=aC.ba.1 hr
  exact aC.bB (h.1.rep h1) (h.2.rep h2)
 |[],_::_,_,h,_=>h.elim
 |_::_,[],_,h,_=>h.elim
def ay:SV→SV→Prop
 | .agg xs,.agg ys=>kh xs ys
 |x,y=>Told x y
theorem kh.refl:∀ xs:List SV,kh xs xs
 |[]=>trivial
 |x::xs=>⟨.inl rfl,kh.refl xs⟩
theorem ay.refl (x:SV):ay x x:=by
 cases x with
 |agg xs=>exact kh.refl xs
 |_=>exact .inl rfl
theorem ay.rep {c:Cx} {x y:SV} {v:Value} (h:ay x y) (hr:aG c x v):aG c y v:=by
 unfold ay at h
 split at h
 ·simp only[aG] at hr ⊢
  obtain⟨vs,h1,h2,h3⟩:=hr
  exact⟨vs,h.rep h1,h2,h3⟩
 ·exact h.rep hr
theorem ao {P:Program} {t:Nat} {i:TI} (z0:SV) (hz0:ay z0 i.zero) (h1:Lf P t i.d) (h2:(P.info? t).map (fun j=>(j.size,j.bytes,j.zero.bind aQ,j.zero.map fun z=>z.cells.size))=some (i.size,i.bytes,some z0,some i.size)):aL P t i:=by
 refine⟨h1,?_⟩
 cases hi:P.info? t with
 |none=>rw[hi] at h2;cases h2
 |some info=>
  rw[hi] at h2
  simp only[Option.map_some,Option.some.injEq,Prod.mk.injEq] at h2
  obtain⟨a1,a2,a3,a4⟩:=h2
  cases hz:info.zero with
  |none=>rw[hz] at a3;cases a3
  |some z=>
   rw[hz] at a3 a4
   exact⟨info,z,rfl,a1,a2,hz,fun c=>⟨hz0.rep (kN a3 c).1,(kN a3 c).2⟩,by simpa using a4⟩
theorem aq.nil {P:Program}:aq P []:=fun t i h=>by cases h
theorem aq.cons {P:Program} {k:Nat} {x:TI} {T:aT} (h:aL P k x) (r:aq P T):aq P ((k,x)::T):=fun t i hi=>by
 simp only[aT.get] at hi
 cases e:Nat.beq t k with
 |true=>
  rw[e,cond_true] at hi
  cases hi
  have:=Nat.eq_of_beq_eq_true e
  subst this
  exact h
 |false=>
  rw[e,cond_false] at hi
  exact r t i hi
end
section
section
variable {P:Program} {G:Gl} {T:aT} {own:List Nat} {nt B:Nat} {ρ:Option Nat} {C:Cx} {env:Env} {H:List ax} {k:Exit→Env→List ax→Prop}
def Iu (K Y:Env→List ax→Prop):Prop:=∀ env H,Y env H→K env H
theorem Iu.go {K Y:Env→List ax→Prop} {env:Env} {H:List ax} (h:Iu K Y) (y:Y env H):K env H:=h env H y
theorem o6 (kd:IntKind) (n:Int) (h:kd.min≤n∧n≤kd.max):aQ (.int kd n)=some (.int kd n):=by simp[aQ,aR,h]
theorem wC (n:Int) (h: -9223372036854775808≤n∧n<9223372036854775808):aQ (.int .i64 n)=some (.int .i64 n):=o6 _ _ (by
 have h1:IntKind.i64.min= -9223372036854775808:=by decide
 have h2:IntKind.i64.max=9223372036854775807:=by decide
 rw[h1,h2];omega)
theorem zd (n:Int) (h:0≤n∧n<256):aQ (.int .u8 n)=some (.int .u8 n):=o6 _ _ (by
 have h1:IntKind.u8.min=0:=by decide
 have h2:IntKind.u8.max=255:=by decide
 rw[h1,h2];omega)
theorem uM (b:Bool):aQ (.bool b)=some (.bool b):=rfl
theorem wD:aQ (.slice none 0 0)=some .nil:=rfl
theorem qz:aQ (.pointer none)=some .aX:=rfl
theorem qy:aQ (.map none)=some .bu:=rfl
theorem wrap_i64 (n:Int) (h: -9223372036854775808≤n∧n<9223372036854775808):IntKind.i64.wrap n=n:=by
 simp only[IntKind.wrap,IntKind.bits,IntKind.signed]
 simp
 omega
theorem xw {a b:Int} (h:a≤b):(a≤b)=True:=eq_true h
theorem xJ {a b:Nat} (h:a≤b):(a≤b)=True:=eq_true h
theorem xK {a b:Nat} (h:a<b):(a<b)=True:=eq_true h
theorem p9.mk {p:Prop} (h:p):p9 p:=h
def bg:Env→Env→Prop
 |[],_=>True
 |(t,x)::r,env=>look env t=some x∧bg r env
theorem bg.look:∀ {env2 env:Env},bg env2 env→∀ t x,look env2 t=some x→look env t=some x
 |[],_,_,t,x,h=>by cases h
 |(t',x')::r,env,hs,t,x,h=>by
  simp only[Go.Proofs.YtehfihnfeakmaaaGreatDoor.look] at h
  split at h
  ·rename_i e;cases h;subst e;exact hs.1
  ·exact hs.2.look t x h
theorem Wk.refl (s:St):Wk G nt C s s:=fun c a h1 h2 h3=>⟨c,h1,rfl,h2,h3⟩
theorem Wk.sub {env2:Env} (h:bg env2 env):Wk G nt C ⟨env,H⟩ ⟨env2,H⟩:=Wk.env h.look
def mv (p:Prop):Prop:=p
theorem mv.go {p:Prop} (h:mv p):p:=h
theorem Fin.same {x:SV} {R:SV→List ax→Prop} (h:R x H):Fin C H x R:=fun c v h1 h2 h3 h4=>⟨c,x,rfl,by rw[h1];exact h,h2,h3,h4⟩
theorem Fin.then {x:SV} {R:SV→List ax→Prop} (h:R x H):p9 (Fin C H x R):=Fin.same h
end
end
abbrev aE:=List UInt8
mutual
inductive Ex where
 |mk (kind:Int) (name:aE) (n op:Int) (names:List aE) (ae:List Ex) (binds:List Bd) (alts:List Al)
inductive Bd where
 |mk (name:aE) (e:Ex)
inductive Al where
 |mk (kind:Int) (name:aE) (n:Int) (names:List aE) (body:Ex)
end
def Bd.name:Bd→aE
 | .mk s _=>s
def Bd.e:Bd→Ex
 | .mk _ e=>e
def Al.kind:Al→Int
 | .mk k _ _ _ _=>k
def Al.name:Al→aE
 | .mk _ s _ _ _=>s
def Al.n:Al→Int
 | .mk _ _ n _ _=>n
def Al.names:Al→List aE
 | .mk _ _ _ l _=>l
def Al.body:Al→Ex
 | .mk _ _ _ _ e=>e
mutual
def Ex.cells:Ex→List SV
 | .mk k s n op l ae binds alts=>[.int .i64 k,.str s,.int .i64 n,.int .i64 op,.list 1 (l.map .str),.list 8 (ag ae),.list 9 (ah binds),.list 12 (aw alts)]
def ag:List Ex→List SV
 |[]=>[]
 |e::r=> .agg e.cells::ag r
def Bd.cells:Bd→List SV
 | .mk s e=> .str s::e.cells
def ah:List Bd→List SV
 |[]=>[]
 |b::r=> .agg b.cells::ah r
def Al.cells:Al→List SV
 | .mk k s n l e=> .int .i64 k:: .str s:: .int .i64 n:: .list 1 (l.map .str)::e.cells
def aw:List Al→List SV
 |[]=>[]
 |a::r=> .agg a.cells::aw r
end
def Ex.sv (e:Ex):SV:= .agg e.cells
def Bd.sv (b:Bd):SV:= .agg b.cells
def Al.sv (a:Al):SV:= .agg a.cells
theorem Ex.bS (e:Ex):e.cells.length=8:=by cases e;rfl
theorem Bd.bS (b:Bd):b.cells.length=9:=by cases b;simp[Bd.cells,Ex.bS]
theorem Al.bS (a:Al):a.cells.length=12:=by cases a;simp[Al.cells,Ex.bS]
theorem bh:∀ l:List Ex,ag l=l.map Ex.sv
 |[]=>rfl
 |e::r=>by rw[ag,bh r];rfl
theorem aV:∀ l:List Bd,ah l=l.map Bd.sv
 |[]=>rfl
 |e::r=>by rw[ah,aV r];rfl
theorem bG:∀ l:List Al,aw l=l.map Al.sv
 |[]=>rfl
 |e::r=>by rw[aw,bG r];rfl
theorem Ex.yN (e:Ex):e.cells.take 8=e.cells:=List.take_of_length_le (by rw[e.bS];exact Nat.le_refl _)
theorem Bd.cM (b:Bd):b.cells= .str b.name::b.e.cells:=by cases b;rfl
theorem Al.cM (a:Al):a.cells= .int .i64 a.kind:: .str a.name:: .int .i64 a.n:: .list 1 (a.names.map .str)::a.body.cells:=by cases a;rfl
mutual
def Ex.size:Ex→Nat
 | .mk _ _ _ _ _ ae binds alts=>1+lP ae+lL binds+lK alts
def lP:List Ex→Nat
 |[]=>0
 |e::r=>e.size+lP r
def Bd.size:Bd→Nat
 | .mk _ e=>e.size
def lL:List Bd→Nat
 |[]=>0
 |b::r=>b.size+lL r
def Al.size:Al→Nat
 | .mk _ _ _ _ e=>e.size
def lK:List Al→Nat
 |[]=>0
 |a::r=>a.size+lK r
end
theorem Ex.size_pos (e:Ex):0<e.size:=by cases e;simp[Ex.size];omega
section
theorem cS (H L:List ax):(H++L)[H.length]? =L[0]? :=by rw[List.getElem?_append_right (Nat.le_refl _),Nat.sub_self]
theorem bZ (H L:List ax) (k:Nat):(H++L)[H.length+k]? =L[k]? :=by simp[List.getElem?_append_right]
theorem cA {H L:List ax} {id:Nat} (h:id<H.length):(H++L)[id]? =H[id]? :=List.getElem?_append_left h
theorem fB (H L:List ax) (x:ax):(H++L).set H.length x=H++L.set 0 x:=by simp[List.set_append]
theorem cB (H L:List ax) (k:Nat) (x:ax):(H++L).set (H.length+k) x=H++L.set k x:=by simp[List.set_append]
theorem eN {H L:List ax} {id:Nat} (h:id<H.length) (x:ax):(H++L).set id x=H.set id x++L:=by simp[List.set_append,h]
theorem oW {n m:Nat} (h:n≤m):∀ {es:List (SV×SV)},cY n es=true→cY m es=true
 |[],_=>rfl
 |p::r,hb=>by
  simp only[cY,Bool.and_eq_true] at hb ⊢
  exact⟨⟨(SV.bW h).1 _ hb.1.1,(SV.bW h).1 _ hb.1.2⟩,oW h hb.2⟩
theorem ax.zQ {n m:Nat} (h:n≤m) {B:ax} (hb:B.under n=true):B.under m=true:=by
 cases B with
 |cells _ _ vals=>exact(SV.bW h).2 _ hb
 |map _ es=>exact oW h hb
 |_=>rfl
theorem closed.app {H:List ax} (h:closed H) {L:List ax} (hb:∀ b∈L,b.under (H.length+L.length)=true):closed (H++L):=by
 intro B hB
 rw[List.length_append]
 rcases List.mem_append.1 hB with h1|h1
 ·exact ax.zQ (by omega) (h B h1)
 ·exact hb B h1
theorem closed.set {H:List ax} (h:closed H) {id:Nat} {b:ax} (hb:b.under H.length=true):closed (H.set id b):=by
 intro B hB
 rw[List.length_set]
 rcases List.mem_or_eq_of_mem_set hB with h1|h1
 ·exact h B h1
 ·subst h1;exact hb
mutual
theorem Ex.bD (n:Nat):∀ e:Ex,SV.aB n e.cells=true
 | .mk k s m op l ae binds alts=>by
  simp only[Ex.cells,SV.aB,SV.under,bp,dF,cI,fN,Bool.and_self]
theorem dF (n:Nat):∀ l:List Ex,SV.aB n (ag l)=true
 |[]=>rfl
 |e::r=>by simp only[ag,SV.aB,SV.under,Ex.bD n e,dF n r,Bool.and_self]
theorem Bd.bD (n:Nat):∀ b:Bd,SV.aB n b.cells=true
 | .mk s e=>by simp only[Bd.cells,SV.aB,SV.under,Ex.bD n e,Bool.and_self]
theorem cI (n:Nat):∀ l:List Bd,SV.aB n (ah l)=true
 |[]=>rfl
 |e::r=>by simp only[ah,SV.aB,SV.under,Bd.bD n e,cI n r,Bool.and_self]
theorem Al.bD (n:Nat):∀ b:Al,SV.aB n b.cells=true
 | .mk k s m l e=>by simp only[Al.cells,SV.aB,SV.under,bp,Ex.bD n e,Bool.and_self]
theorem fN (n:Nat):∀ l:List Al,SV.aB n (aw l)=true
 |[]=>rfl
 |e::r=>by simp only[aw,SV.aB,SV.under,Al.bD n e,fN n r,Bool.and_self]
theorem bp (n:Nat):∀ l:List aE,SV.aB n (l.map .str)=true
 |[]=>rfl
 |e::r=>by simp only[List.map,SV.aB,SV.under,bp n r,Bool.and_self]
end
theorem Ex.Et (n:Nat) (e:Ex):e.sv.under n=true:=Ex.bD n e
section
variable {P:Program} {G:Gl} {nt:Nat} {C:Cx} {env:Env} {H:List ax}
def vH (n:Nat):Env→Env→Prop
 |[],_=>True
 |(t,x)::r,env=>(look env t=some x∧x.under n=true)∧vH n r env
theorem vH.look {n:Nat}:∀ {env2 env:Env},vH n env2 env→∀ t x,look env2 t=some x→look env t=some x∧x.under n=true
 |[],_,_,t,x,h=>by cases h
 |(t',x')::r,env,hs,t,x,h=>by
  simp only[Go.Proofs.YtehfihnfeakmaaaGreatDoor.look] at h
  split at h
  ·rename_i e;cases h;subst e;exact hs.1
  ·exact hs.2.look t x h
theorem Fin.cut {X:List ax} {x:SV} {R:SV→List ax→Prop} (hC:C.H.length≤H.length) (hcl:closed H) (hx:x.under H.length=true) (h:R x H):p9 (Fin C (H++X) x R):=by
 rintro⟨θ,Hc,w⟩ v h1 h2 h3 h4
 simp only at h1
 subst h1
 obtain⟨k1,k2⟩:=Cx.cut h2 hcl
 exact⟨⟨θ,H,w⟩,x,rfl,h,k1,aG.gL.1 _ _ h3 hx,k2 C hC h4⟩
end
end
theorem cR (l:List Ex):(ag l).length=l.length:=by simp[bh]
theorem wh (l:List Bd):(ah l).length=l.length:=by simp[aV]
theorem vY (l:List Al):(aw l).length=l.length:=by simp[bG]
theorem xc (l:List Ex) (i:Nat):(ag l)[i]? =l[i]?.map fun e=> .agg e.cells:=by rw[bh,List.getElem?_map];rfl
theorem wg (l:List Bd) (i:Nat):(ah l)[i]? =l[i]?.map fun e=> .agg (.str e.name::e.e.cells):=by
 rw[aV,List.getElem?_map]
 have:Bd.sv=fun e=> .agg (.str e.name::e.e.cells):=by funext e;rw[Bd.sv,Bd.cM]
 rw[this]
theorem vX (l:List Al) (i:Nat):(aw l)[i]? =l[i]?.map fun a=> .agg (.int .i64 a.kind:: .str a.name:: .int .i64 a.n:: .list 1 (a.names.map .str)::a.body.cells):=by
 rw[bG,List.getElem?_map]
 have:Al.sv=fun a=> .agg (.int .i64 a.kind:: .str a.name:: .int .i64 a.n:: .list 1 (a.names.map .str)::a.body.cells):=by funext e;rw[Al.sv,Al.cM]
 rw[this]
def Ex.kind:Ex→Int| .mk k _ _ _ _ _ _ _=>k
def Ex.name:Ex→aE| .mk _ s _ _ _ _ _ _=>s
def Ex.n:Ex→Int| .mk _ _ n _ _ _ _ _=>n
def Ex.op:Ex→Int| .mk _ _ _ o _ _ _ _=>o
def Ex.names:Ex→List aE| .mk _ _ _ _ l _ _ _=>l
def Ex.ae:Ex→List Ex| .mk _ _ _ _ _ l _ _=>l
def Ex.binds:Ex→List Bd| .mk _ _ _ _ _ _ l _=>l
def Ex.alts:Ex→List Al| .mk _ _ _ _ _ _ _ l=>l
def Ex.parts (e:Ex):List Ex:=e.ae++(e.binds.map Bd.e++e.alts.map Al.body)
theorem Ex.bM (k:Int) (s:aE) (n o:Int) (l:List aE) (ae:List Ex) (binds:List Bd) (alts:List Al):(Ex.mk k s n o l ae binds alts).parts=ae++(binds.map Bd.e++alts.map Al.body):=rfl
def db:List aE→Nat
 |[]=>0
 |s::r=>1+s.length+db r
mutual
def Ex.wt:Ex→Nat
 | .mk _ s _ _ l ae binds alts=>1+s.length+db l+cw ae+aM binds+cU alts
def cw:List Ex→Nat
 |[]=>0
 |e::r=>e.wt+cw r
def Bd.wt:Bd→Nat
 | .mk s e=>1+s.length+e.wt
def aM:List Bd→Nat
 |[]=>0
 |b::r=>b.wt+aM r
def Al.wt:Al→Nat
 | .mk _ s _ l e=>1+s.length+db l+e.wt
def cU:List Al→Nat
 |[]=>0
 |a::r=>a.wt+cU r
end
theorem Ex.b9 (e:Ex):0<e.wt:=by cases e;simp only[Ex.wt];omega
theorem Bd.di (b:Bd):b.e.wt<b.wt:=by cases b;simp only[Bd.wt,Bd.e];omega
theorem Al.di (b:Al):b.body.wt<b.wt:=by cases b;simp only[Al.wt,Al.body];omega
theorem ff:∀ l:List aE,l.length≤db l
 |[]=>Nat.le_refl _
 |s::r=>by simp only[List.length_cons,db];have:=ff r;omega
theorem tz:∀ l:List Ex,l.length≤cw l
 |[]=>Nat.le_refl _
 |e::r=>by simp only[List.length_cons,cw];have:=tz r;have:=e.b9;omega
theorem cC:∀ l:List Bd,l.length≤aM l
 |[]=>Nat.le_refl _
 |e::r=>by simp only[List.length_cons,aM];have:=cC r;have:=e.di;omega
theorem s9:∀ l:List Al,l.length≤cU l
 |[]=>Nat.le_refl _
 |e::r=>by simp only[List.length_cons,cU];have:=s9 r;have:=e.di;omega
theorem eo:∀ {l:List Ex} {e:Ex},e∈l→e.wt≤cw l
 |x::r,e,h=>by
  simp only[cw]
  rcases List.mem_cons.1 h with rfl|h
  ·omega
  ·have:=eo h;omega
theorem df:∀ {l:List Bd} {e:Bd},e∈l→e.wt≤aM l
 |x::r,e,h=>by
  simp only[aM]
  rcases List.mem_cons.1 h with rfl|h
  ·omega
  ·have:=df h;omega
theorem ek:∀ {l:List Al} {e:Al},e∈l→e.wt≤cU l
 |x::r,e,h=>by
  simp only[cU]
  rcases List.mem_cons.1 h with rfl|h
  ·omega
  ·have:=ek h;omega
theorem Ex.bT {e p:Ex} (h:p∈e.parts):p.wt<e.wt:=by
 obtain⟨k,s,n,o,l,ae,binds,alts⟩:=e
 rw[Ex.bM] at h
 simp only[Ex.wt]
 rcases List.mem_append.1 h with h|h
 ·have:=eo h;omega
 ·rcases List.mem_append.1 h with h|h
  ·obtain⟨b,hb,rfl⟩:=List.mem_map.1 h
   have:=df hb;have:=b.di;omega
  ·obtain⟨b,hb,rfl⟩:=List.mem_map.1 h
   have:=ek hb;have:=b.di;omega
theorem Ex.cm (k:Int) (s:aE) (n o:Int) (l:List aE) (ae:List Ex) (binds:List Bd) (alts:List Al):l.length+ae.length+binds.length+alts.length<(Ex.mk k s n o l ae binds alts).wt:=by
 have h1:=ff l;have h2:=tz ae;have h3:=cC binds;have h4:=s9 alts
 simp only[Ex.wt];omega
def IC (F:Ex→Int×Bool):Int→List Ex→Int×Bool
 |n,[]=>(n,true)
 |n,e::r=>if n<30000 then (if (F e).2 then IC F (n+(F e).1) r else (n+(F e).1,false)) else (n,true)
def fO:Nat→Ex→Int×Bool
 |0,_=>(1,false)
 |f+1,e=>IC (fO f) 1 e.parts
end Go.Proofs.YtehfihnfeakmaaaGreatDoor
