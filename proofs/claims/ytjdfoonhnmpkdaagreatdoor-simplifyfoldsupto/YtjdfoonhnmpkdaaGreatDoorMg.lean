/- A part of the proof: W6, Y4, Y5, Y6, Y7, Y9, D0, D3, I1, I2, I3, I4, I5, I6, I7, I8, I9, I10, D2, I11, Y1, Y2, F0, I12, J9, X4, U5. Names and spaces are cut short by program. -/
import Derived.Test.YtjdfoonhnmpkdaaGreatDoorMf
set_option linter.unusedSimpArgs false
set_option linter.unusedVariables false
set_option maxRecDepth 10000
set_option maxHeartbeats 4000000
namespace Go.Proofs.YtjdfoonhnmpkdaaGreatDoor
open Go
theorem G2 (e:Ex):((bM e).map fun p=>p.1.wt).sum<e.wt:=by
 obtain⟨kd,nm,nn,op,names,ae,binds,alts⟩:=e
 have h1:∀ l:List Ex,(l.map fun x=>x.wt).sum=cn l:=fun l=>by
  induction l with
  |nil=>rfl
  |cons x r ih=>simp only[List.map_cons,List.sum_cons,cn,ih]
 have h2:∀ l:List Bd,(l.map fun b=>b.e.wt).sum≤aV l:=fun l=>by
  induction l with
  |nil=>exact Nat.le_refl _
  |cons x r ih=>simp only[List.map_cons,List.sum_cons,aV];have:=x.dw;omega
 have h3:∀ l:List Al,(l.map fun b=>b.body.wt).sum≤cf l:=fun l=>by
  induction l with
  |nil=>exact Nat.le_refl _
  |cons x r ih=>simp only[List.map_cons,List.sum_cons,cf];have:=x.dw;omega
 have:=h1 ae;have:=h2 binds;have:=h3 alts
 simp only[bM,List.map_append,List.map_map,Function.comp_def,List.sum_append,Ex.wt]
 omega
theorem J3 (l:List aD) (s:aD):(qM l s).length≤l.length+1:=by
 unfold qM
 split<;>simp
theorem qW:∀ (m:Nat) (e:Ex) (st:BO),(eP m e st).2.length≤st.2.length+e.wt
 |0,e,st=>by simp[eP]
 |m+1,e,st=>by
  rw[eP]
  have hp:=e.bZ
  split
  ·split
   ·have:=J3 st.2 e.name;simp only;omega
   ·omega
  ·have hs:=G2 e
   generalize bM e=l at hs
   have key:∀ (l:List (Ex×List aD)) (st:BO),(l.foldl (jf (eP m)) st).2.length≤st.2.length+(l.map fun p=>p.1.wt).sum:=fun l=>by
    induction l with
    |nil=>intro st;exact Nat.le_refl _
    |cons p l ih=>
     intro st
     rw[List.foldl_cons]
     have h1:=ih (jf (eP m) st p)
     have h2:=qW m p.1 (mS st.1 p.2,st.2)
     simp only[List.map_cons,List.sum_cons]
     have e:(jf (eP m) st p).2.length=(eP m p.1 (mS st.1 p.2,st.2)).2.length:=rfl
     rw[e] at h1
     simp only at h2
     omega
   have:=key l st
   omega
theorem D5 {l:List aD} (h:l.Nodup) (s:aD):(qM l s).Nodup:=by
 unfold qM
 split
 ·exact h
 ·rename_i hs
  exact List.nodup_append.2 ⟨h,by simp,by simp;exact fun a ha e=>hs (e ▸ ha)⟩
def de (e:Ex):List aD:=cW (eP e.wt e ([],[])).2
theorem zd (G:Gl) (hG:ah G) (e:Ex) (H:List av) (hw:e.wt<549755813888):aq Tryz.prog G 139 [e.sv] H (fun r H'=>H'=H++[.cells 0 1 ((de e).map .str)]∧r= .sl H.length 0 0 (de e).length):=by
 refine bP [] Tryz.func139 Tryz.ntmps139 fun C R' hR hC hcl hB hC' X=>?_
 have hcall:=py G hG e.wt e (Nat.le_refl _) hw (H++[.cells 0 8 [e.sv],.map none [],.map none []]) (H.length+2) (H.length+1) ([],[]) (by simp[kG]) (by simp[kB]) (by omega) (fun s=>by simp only[da];omega)
 have hlen:=qW e.wt e ([],[])
 have hfl:(de e).length=(eP e.wt e ([],[])).2.length:=iV _
 generalize hst:eP e.wt e ([],[])=st at hcall hlen hfl
 (refine run ?_)
 refine br hcall ?_
 rintro r H' rfl
 simp only[UH,bW,List.set_cons_succ,List.set_cons_zero]
 refine IS ?_
 refine N7 (t:=3) (io:=H.length+1) (kd:=none) (es:=kB st.2) (by exact dA) (by omega) hB rfl (fun bm clk born hb hnd=>?_)
 have e1:(kB st.2).map Prod.fst=st.2.map .str:=by simp[kB]
 have e2:(kB st.2).map Prod.snd=st.2.map fun _=> .bool true:=by simp[kB]
 have e3:(kB st.2).length=st.2.length:=by simp[kB]
 rw[e1,e2]
 rw[e3] at hb
 simp only[bW,List.set_cons_succ,List.set_cons_zero]
 (refine run ?_)
 refine br (Mf G hG bm clk born st.2 _ (fun n=>SV.aT fun _ _=>rfl) _) ?_
 rintro r H' ⟨rfl,rfl⟩
 simp only[List.append_assoc,List.cons_append,List.nil_append,List.length_append,List.length_cons,List.length_nil,List.length_set,X,Nat.reduceAdd]
 (refine run ?_)
 refine br (He G hG (H.length+3) bm clk born st.2 (st.2.map fun _=> .bool true) hb (by simp) hnd (by simp only at hlen;simp at hlen;omega) _ (by rw[aH];rfl) (fun n=>SV.aT fun _ _=>rfl)) ?_
 rintro r H' ⟨rfl,rfl⟩
 simp only[List.append_assoc,List.cons_append,List.nil_append,List.length_append,List.length_cons,List.length_nil,List.length_set,X,Nat.reduceAdd]
 (refine run ?_)
 have e4:cW st.2=de e:=by rw[de,hst]
 rw[e4,← hfl]
 exact gD [(H.length+4,0)] (.sl H.length 0 0 (de e).length) [.cells 0 1 ((de e).map .str)] hR hC' hcl ⟨rfl,rfl⟩
theorem EI (G:Gl) (hG:ah G) (e:Ex) (hw:e.wt<549755813888) (fv:SV) (Hs:Nat→List av) (n0:Nat) (hlen:∀ i,(Hs i).length=n0) (hfu:fv.under n0=true) (hcls:closed (Hs 0)→∀ i,closed (Hs i))
 (hy:∀ i p X,e.parts[i]? =some p→aY Tryz.prog G fv [p.sv] (Hs i++X) (fun r H'=>H'=Hs (i+1)++X∧r= .bool true)):
 aq Tryz.prog G 72 [e.sv,fv] (Hs 0) (fun r H'=>H'=Hs e.parts.length∧r= .bool true):=by
 obtain⟨kd,nm,nn,op,names,ae,binds,alts⟩:=e
 have hle:=Ex.dn kd nm nn op names ae binds alts
 rw[Ex.ck] at hy ⊢
 have hpl:(ae++(binds.map Bd.e++alts.map Al.body)).length=ae.length+binds.length+alts.length:=by simp;omega
 have p1:∀ i (h:i<ae.length),(ae++(binds.map Bd.e++alts.map Al.body))[i]? =some ae[i]:=fun i h=>by
  rw[List.getElem?_append_left h,List.getElem?_eq_getElem h]
 have p2:∀ i (h:i<binds.length),(ae++(binds.map Bd.e++alts.map Al.body))[ae.length+i]? =some binds[i].e:=fun i h=>by
  rw[List.getElem?_append_right (by omega),Nat.add_sub_cancel_left,List.getElem?_append_left (by simpa using h),List.getElem?_map,List.getElem?_eq_getElem h];rfl
 have p3:∀ i (h:i<alts.length),(ae++(binds.map Bd.e++alts.map Al.body))[ae.length+(binds.length+i)]? =some alts[i].body:=fun i h=>by
  rw[List.getElem?_append_right (by omega),Nat.add_sub_cancel_left,List.getElem?_append_right (by simp),List.length_map,Nat.add_sub_cancel_left,List.getElem?_map,List.getElem?_eq_getElem h];rfl
 refine bP [] Tryz.func72 Tryz.ntmps72 fun C R' hR hC hcl hB hC' X=>?_
 have hcl:=hcls hcl
 have hC':=hC'.trans (hlen 0)
 have X:=Px Hs n0 hlen
 (refine bK ?_)
 refine aA (fun i:Nat=>[(1,fv),(2,.ptr n0 0 0 0),(12,.list 8 (ag ae)),(13,.int .i64 ae.length),(14,.int .i64 i)])
  (fun i=>Hs i++[.cells 0 8 [.agg [.int .i64 kd,.str nm,.int .i64 nn,.int .i64 op,.list 1 (names.map .str),.list 8 (ag ae),.list 9 (ad binds),.list 12 (af alts)]]]) (fun i=>ae.length - i) (fun i=>i≤ae.length) 0 (Nat.zero_le _) ?_ ?_
 ·exact bI (n0:=n0) [(n0,0)] hG hB hC' (hcl 0)
 rintro K i hi hK
 (refine bK ?_;with_reducible repeat' first|exact trivial|(apply aJ.mk<;>intro hb)|apply bN.mk)
 ·refine eS (hy i _ _ (p1 i (by omega))) ?_
  rintro r H' ⟨rfl,rfl⟩
  (refine bK ?_)
  refine hK _ _ (i+1) (by omega) (by omega) ?_
  exact bI (n0:=n0) [(n0,0)] hG hB hC' (hcl (i+1))
 obtain rfl:i=ae.length:=by omega
 clear hK
 refine aA (fun i:Nat=>[(1,fv),(2,.ptr n0 0 0 0),(24,.list 9 (ad binds)),(25,.int .i64 binds.length),(26,.int .i64 i)])
  (fun i=>Hs (ae.length+i)++[.cells 0 8 [.agg [.int .i64 kd,.str nm,.int .i64 nn,.int .i64 op,.list 1 (names.map .str),.list 8 (ag ae),.list 9 (ad binds),.list 12 (af alts)]]]) (fun i=>binds.length - i) (fun i=>i≤binds.length) 0 (Nat.zero_le _) ?_ ?_
 ·exact bI (n0:=n0) [(n0,0)] hG hB hC' (hcl _)
 rintro K i hi hK
 (refine bK ?_;with_reducible repeat' first|exact trivial|(apply aJ.mk<;>intro hb)|apply bN.mk)
 ·refine eS (hy (ae.length+i) _ _ (p2 i (by omega))) ?_
  rintro r H' ⟨rfl,rfl⟩
  (refine bK ?_)
  refine hK _ _ (i+1) (by omega) (by omega) ?_
  exact bI (n0:=n0) [(n0,0)] hG hB hC' (hcl _)
 obtain rfl:i=binds.length:=by omega
 clear hK
 refine aA (fun i:Nat=>[(1,fv),(2,.ptr n0 0 0 0),(37,.list 12 (af alts)),(38,.int .i64 alts.length),(39,.int .i64 i)])
  (fun i=>Hs (ae.length+(binds.length+i))++[.cells 0 8 [.agg [.int .i64 kd,.str nm,.int .i64 nn,.int .i64 op,.list 1 (names.map .str),.list 8 (ag ae),.list 9 (ad binds),.list 12 (af alts)]]]) (fun i=>alts.length - i) (fun i=>i≤alts.length) 0 (Nat.zero_le _) ?_ ?_
 ·exact bI (n0:=n0) [(n0,0)] hG hB hC' (hcl _)
 rintro K i hi hK
 (refine bK ?_;with_reducible repeat' first|exact trivial|(apply aJ.mk<;>intro hb)|apply bN.mk)
 ·refine eS (hy (ae.length+(binds.length+i)) _ _ (p3 i (by omega))) ?_
  rintro r H' ⟨rfl,rfl⟩
  (refine bK ?_)
  refine hK _ _ (i+1) (by omega) (by omega) ?_
  exact bI (n0:=n0) [(n0,0)] hG hB hC' (hcl _)
 obtain rfl:i=alts.length:=by omega
 refine Fin.aS (n0:=n0) hR (hlen _) hC' (hcl _) (.same _ rfl) ⟨?_,rfl⟩
 rw[hpl,Nat.add_assoc]
def Aq (n:Int):av:= .cells 0 1 [.int .i64 n]
theorem Kg (G:Gl) (hG:ah G) (x:Ex) (H:List av) (n:Int) (nb:Nat) (h1:H[nb]? =some (Aq n)) (h2:0≤n) (h3:n+1<4611686018427387904):
 aq Tryz.prog G 71 [x.sv,.ptr nb 0 0 0] H (fun r H'=>H'=H.set nb (Aq (n+1))∧r= .bool true):=by
 have hlt:nb<H.length:=(List.getElem?_eq_some_iff.1 h1).1
 refine bP [] Tryz.func71 Tryz.ntmps71 fun C R' hR hC hcl hB hC' X=>?_
 have X:=h1
 unfold Aq at X
 (refine run ?_)
 exact Fin.aS (n0:=H.length) hR (by simp) hC' (hcl.set rfl) (.same _ rfl) ⟨rfl,rfl⟩
theorem tC {α:Type} (f:List α→Nat) (g:α→Nat) (h0:f []=0) (h1:∀ x l,f (x::l)=g x+f l):∀ l,f l=(l.map g).sum
 |[]=>by simp[h0]
 |x::l=>by rw[h1,tC f g h0 h1 l];simp
theorem Bt (l:List Ex):jT l=(l.map Ex.size).sum:=tC jT _ (by simp[jT]) (fun x l=>by simp only[jT]) l
theorem AH (l:List Bd):gQ l=((l.map Bd.e).map Ex.size).sum:=by
 rw[List.map_map];exact tC gQ _ (by simp[gQ]) (fun x l=>by cases x;simp only[gQ,Bd.size,Function.comp_def,Bd.e]) l
theorem Ay (l:List Al):jO l=((l.map Al.body).map Ex.size).sum:=by
 rw[List.map_map];exact tC jO _ (by simp[jO]) (fun x l=>by cases x;simp only[jO,Al.size,Function.comp_def,Al.body]) l
theorem Ex.jE (e:Ex):e.size=1+(e.parts.map Ex.size).sum:=by
 obtain⟨kd,nm,nn,op,names,ae,binds,alts⟩:=e
 rw[Ex.ck,Ex.size,Bt,AH,Ay,List.map_append,List.map_append,List.sum_append,List.sum_append]
 omega
theorem nv {l:List Nat}:∀ (i:Nat),(l.take i).sum≤l.sum:=by
 induction l with
 |nil=>intro i;simp
 |cons x r ih=>
  intro i
  cases i with
  |zero=>simp
  |succ i=>simp only[List.take_succ_cons,List.sum_cons];have:=ih i;omega
def O4 (G:Gl) (m:Nat):Prop:=∀ (e:Ex) (H:List av) (n:Int) (nb:Nat),e.wt≤m→H[nb]? =some (Aq n)→0≤n→n+e.size<4611686018427387904→
 aq Tryz.prog G 33 [e.sv,.fn (.func 71) [] [.ptr nb 0 0 0]] H (fun r H'=>H'=H.set nb (Aq (n+e.size))∧r= .bool true)
theorem Lc (G:Gl) (hG:ah G) (m:Nat) (hrec:O4 G m) (p:Ex) (H:List av) (n:Int) (nb ib:Nat) (hp:p.wt≤m) (h1:H[nb]? =some (Aq n)) (hib:H[ib]? =some (.cells 0 1 [.fn (.func 71) [] [.ptr nb 0 0 0]])) (h2:0≤n) (h3:n+p.size<4611686018427387904):
 aq Tryz.prog G 74 [p.sv,.ptr ib 0 0 0] H (fun r H'=>H'=H.set nb (Aq (n+p.size))∧r= .bool true):=by
 have hlt:nb<H.length:=(List.getElem?_eq_some_iff.1 h1).1
 have hlt2:ib<H.length:=(List.getElem?_eq_some_iff.1 hib).1
 refine bP [] Tryz.func74 Tryz.ntmps74 fun C R' hR hC hcl hB hC' X=>?_
 have X:=And.intro h1 hib
 (refine run ?_)
 refine br (hrec p _ n nb hp (by rw[dx hlt];exact h1) h2 h3) ?_
 rintro r H' ⟨rfl,rfl⟩
 rw[gY hlt]
 (refine run ?_)
 exact Fin.aS (n0:=H.length) hR (by simp) hC' (hcl.set rfl) (.same _ rfl) ⟨rfl,rfl⟩
theorem HE (G:Gl) (hG:ah G):∀ m,m<549755813888→O4 G m
 |0,_,e,_,_,_,h,_,_,_=>absurd e.bZ (by omega)
 |m+1,hm2,e,H,n,nb,hm,h1,h2,h3=>by
  have hlt:nb<H.length:=(List.getElem?_eq_some_iff.1 h1).1
  have hsz:=e.jE
  have hrec:=HE G hG m (by omega)
  have hs0:=e.size_pos
  refine bP [] Tryz.func33 Tryz.ntmps33 fun C R' hR hC hcl hB hC' X=>?_
  (refine run ?_)
  refine eS (aY.of (first:=[]) (args:=[e.sv]) (cap:=[.ptr nb 0 0 0]) (Kg G hG e _ n nb (by rw[dx hlt];exact h1) h2 (by omega))) ?_
  rintro r H' ⟨rfl,rfl⟩
  rw[gY hlt]
  (refine run ?_)
  have hw:∀ i,n+1+(((e.parts.take i).map Ex.size).sum:Nat)≤n+e.size:=fun i=>by
   have:=nv (l:=e.parts.map Ex.size) i
   rw[← List.map_take] at this
   omega
  have hk:∀ (i:Nat) (L:List av),((H.set nb (Aq (n+1+(((e.parts.take i).map Ex.size).sum:Nat)))++L))[nb]? =some (Aq (n+1+(((e.parts.take i).map Ex.size).sum:Nat))):=fun i L=>kL hlt
  have heach:=EI G hG e (by omega) (.fn (.func 74) [] [.ptr (H.length+1) 0 0 0]) (fun i=>H.set nb (Aq (n+1+(((e.parts.take i).map Ex.size).sum:Nat)))++[.cells 0 8 [.agg e.cells],.cells 0 1 [.fn (.func 71) [] [.ptr nb 0 0 0]]]) (H.length+2) (fun i=>by simp) (by simp[SV.under,SV.aj])
   (fun h i=>by have:=h.set (id:=nb) (b:=Aq (n+1+(((e.parts.take i).map Ex.size).sum:Nat))) rfl;rwa[jD hlt] at this) (fun i p X hp=>by
    have hpw:=Ex.cm (List.mem_of_getElem? hp)
    have hlp:=(List.getElem?_eq_some_iff.1 hp)
    have hnx:((e.parts.take (i+1)).map Ex.size).sum=((e.parts.take i).map Ex.size).sum+p.size:=by
     rw[List.take_succ_eq_append_getElem hlp.1,hlp.2];simp
    have hwi:=hw (i+1)
    refine aY.of (first:=[]) (args:=[p.sv]) (cap:=[.ptr (H.length+1) 0 0 0]) ((Lc G hG m hrec p _ (n+1+(((e.parts.take i).map Ex.size).sum:Nat)) nb (H.length+1) (by omega) (by rw[List.append_assoc];exact hk i _) (by rw[List.append_assoc];simp) (by omega) (by omega)).mono ?_)
    rintro r H' ⟨rfl,rfl⟩
    refine⟨?_,rfl⟩
    rw[List.append_assoc,jD hlt,hnx,List.append_assoc]
    congr 3
    omega)
  rw[show n+1+((((e.parts.take 0).map Ex.size).sum:Nat):Int)=n+1 by simp] at heach
  refine br heach ?_
  rintro r H' ⟨rfl,rfl⟩
  rw[List.take_length,show n+1+(((e.parts.map Ex.size).sum:Nat):Int)=n+e.size by omega]
  (refine run ?_)
  exact Fin.aS (n0:=H.length) hR (by simp) hC' (hcl.set rfl) (.same _ rfl) ⟨rfl,rfl⟩
theorem MP (G:Gl) (hG:ah G) (e:Ex) (H:List av) (hw:e.wt<549755813887) (hs:e.size<4611686018427387904):aq Tryz.prog G 28 [e.sv] H (fun r H'=>H'=H∧r= .int .i64 e.size):=by
 refine bP [] Tryz.func28 Tryz.ntmps28 fun C R' hR hC hcl hB hC' X=>?_
 (refine run ?_)
 refine br (HE G hG e.wt (by omega) e _ 0 (H.length+1) (Nat.le_refl _) (by rw[aH];rfl) (by omega) (by omega)) ?_
 rintro r H' ⟨rfl,rfl⟩
 rw[bW,Aq,Int.zero_add]
 simp only[List.set_cons_succ,List.set_cons_zero]
 (refine run ?_)
 exact Fin.aS (n0:=H.length) hR (by simp) hC' hcl (.same _ rfl) ⟨rfl,rfl⟩
def Ap:Nat→Ex→Prop
 |0,_=>True
 |m+1,e=>(e.kind≠6→e.alts=[])∧(e.kind≠5→e.binds=[])∧∀ p∈e.parts,Ap m p

theorem Iv:∀ l:List Ex,(l.map Ex.wt).sum≤cn l
 |[]=>Nat.le_refl _
 |x::l=>by simp only[List.map_cons,List.sum_cons,cn];have:=Iv l;omega
theorem HO:∀ l:List Bd,((l.map Bd.e).map Ex.wt).sum≤aV l
 |[]=>Nat.le_refl _
 |x::l=>by simp only[List.map_cons,List.sum_cons,aV];have:=HO l;have:=x.dw;omega
theorem HF:∀ l:List Al,((l.map Al.body).map Ex.wt).sum≤cf l
 |[]=>Nat.le_refl _
 |x::l=>by simp only[List.map_cons,List.sum_cons,cf];have:=HF l;have:=x.dw;omega
theorem vo (e:Ex):1+(e.parts.map Ex.wt).sum≤e.wt:=by
 obtain⟨kd,nm,nn,op,names,ae,binds,alts⟩:=e
 rw[Ex.ck,List.map_append,List.map_append,List.sum_append,List.sum_append,Ex.wt]
 have:=Iv ae
 have:=HO binds
 have:=HF alts
 omega
theorem Kk {α:Type} {f g:α→Nat}:∀ {l:List α},(∀ x∈l,f x≤g x)→(l.map f).sum≤(l.map g).sum
 |[],_=>Nat.le_refl _
 |x::l,h=>by
  have h1:=h x (List.mem_cons_self ..)
  have h2:=Kk fun y hy=>h y (List.mem_cons_of_mem _ hy)
  simp only[List.map_cons,List.sum_cons];omega
theorem px:∀ (m:Nat) (e:Ex),e.wt≤m→e.size≤e.wt
 |0,e,h=>absurd e.bZ (by omega)
 |m+1,e,h=>by
  rw[e.jE]
  have h1:=vo e
  have h2:=Kk (f:=Ex.size) (g:=Ex.wt) (l:=e.parts) fun p hp=>px m p (by have:=Ex.cm hp;omega)
  omega
def gJ (l:List Nat):Nat:=l.foldl max 0
theorem B9 (l:List Nat) (x:Nat):gJ (l++[x])=max (gJ l) x:=by simp[gJ,List.foldl_append]
theorem zz {n:Nat}:∀ {l:List Nat},(∀ x∈l,x≤n)→gJ l≤n:=by
 intro l h
 have key:∀ (l:List Nat) (a:Nat),a≤n→(∀ x∈l,x≤n)→l.foldl max a≤n:=by
  intro l
  induction l with
  |nil=>intro a ha _;exact ha
  |cons x r ih=>intro a ha h;exact ih _ (Nat.max_le.2 ⟨ha,h x (List.mem_cons_self ..)⟩) (fun y hy=>h y (List.mem_cons_of_mem _ hy))
 exact key l 0 (Nat.zero_le _) h
def gA:Nat→Ex→Nat
 |0,_=>0
 |m+1,e=>gJ (e.parts.map (gA m))+1
theorem sX:∀ (m:Nat) (e:Ex),gA m e≤m
 |0,_=>Nat.le_refl _
 |m+1,e=>by
  have:=zz (n:=m) (l:=e.parts.map (gA m)) (fun x hx=>by
   obtain⟨p,_,rfl⟩:=List.mem_map.1 hx
   exact sX m p)
  unfold gA
  omega
theorem wW:∀ (m m':Nat) (e:Ex),e.wt≤m→e.wt≤m'→gA m e=gA m' e
 |0,_,e,h,_=>absurd e.bZ (by omega)
 |m+1,0,e,_,h=>absurd e.bZ (by omega)
 |m+1,m'+1,e,h,h'=>by
  unfold gA
  rw[List.map_congr_left (g:=gA m') fun p hp=>wW m m' p (by have:=Ex.cm hp;omega) (by have:=Ex.cm hp;omega)]
def dep (e:Ex):Nat:=gA e.wt e
theorem nI (e:Ex):dep e=gJ (e.parts.map dep)+1:=by
 have hp:=e.bZ
 obtain⟨m,hm⟩:∃ m,e.wt=m+1:=⟨e.wt - 1,by omega⟩
 unfold dep
 rw[hm,gA,List.map_congr_left (g:=fun p=>gA p.wt p) fun p hp=>wW m p.wt p (by have:=Ex.cm hp;omega) (Nat.le_refl _)]
def cF:Nat→Ex→List aD
 |0,_=>[]
 |m+1,.mk kd nm _ _ names ae binds alts=>(if kd=3 then names else [])++ae.flatMap (cF m)++binds.flatMap (fun b=>b.name::cF m b.e)++(if kd=6 then [nm] else [])++alts.flatMap (fun a=>a.names++cF m a.body)
theorem wQ:∀ (m m':Nat) (e:Ex),e.wt≤m→e.wt≤m'→cF m e=cF m' e
 |0,_,e,h,_=>absurd e.bZ (by omega)
 |m+1,0,e,_,h=>absurd e.bZ (by omega)
 |m+1,m'+1,.mk kd nm nn op names ae binds alts,h,h'=>by
  have hw:∀ p∈(Ex.mk kd nm nn op names ae binds alts).parts,cF m p=cF m' p:=fun p hp=>wQ m m' p (by have:=Ex.cm hp;omega) (by have:=Ex.cm hp;omega)
  rw[Ex.ck] at hw
  have h1:ae.flatMap (cF m)=ae.flatMap (cF m'):=by
   rw[List.flatMap_def,List.flatMap_def,List.map_congr_left (g:=cF m') fun p hp=>hw p (by simp[hp])]
  have h2:binds.flatMap (fun b=>b.name::cF m b.e)=binds.flatMap (fun b=>b.name::cF m' b.e):=by
   rw[List.flatMap_def,List.flatMap_def,List.map_congr_left (g:=fun b=>b.name::cF m' b.e) fun b hb=>by rw[hw b.e (by simp;exact .inr (.inl ⟨b,hb,rfl⟩))]]
  have h3:alts.flatMap (fun a=>a.names++cF m a.body)=alts.flatMap (fun a=>a.names++cF m' a.body):=by
   rw[List.flatMap_def,List.flatMap_def,List.map_congr_left (g:=fun a=>a.names++cF m' a.body) fun a ha=>by rw[hw a.body (by simp;exact .inr (.inr ⟨a,ha,rfl⟩))]]
  rw[cF,cF,h1,h2,h3]
theorem mG {α:Type} {f:α→List aD} {g:List α→Nat} {w:α→Nat} (h0:g []=0) (h1:∀ x l,g (x::l)=w x+g l):∀ {l:List α},(∀ x∈l,(f x).length≤w x)→(l.flatMap f).length≤g l
 |[],_=>by simp
 |x::r,h=>by
  have h2:=mG (l:=r) h0 h1 (fun y hy=>h y (List.mem_cons_of_mem _ hy))
  have h3:=h x (List.mem_cons_self ..)
  rw[List.flatMap_cons,List.length_append,h1]
  omega
theorem dH:∀ (m:Nat) (e:Ex),(cF m e).length≤e.wt
 |0,e=>by simp[cF]
 |m+1,.mk kd nm nn op names ae binds alts=>by
  have h1:(ae.flatMap (cF m)).length≤cn ae:=mG (w:=Ex.wt) rfl (fun _ _=>rfl) fun x _=>dH m x
  have h2:(binds.flatMap (fun b=>b.name::cF m b.e)).length≤aV binds:=mG (w:=Bd.wt) rfl (fun _ _=>rfl) fun b _=>by
   have:=dH m b.e
   have:=b.dw
   simp only[List.length_cons];omega
  have h3:(alts.flatMap (fun a=>a.names++cF m a.body)).length≤cf alts:=mG (w:=Al.wt) rfl (fun _ _=>rfl) fun a _=>by
   have:=dH m a.body
   obtain⟨k,s,n,l,e⟩:=a
   have:=eD l
   simp only[Al.wt,Al.names,Al.body,List.length_append] at*;omega
  have h4:=eD names
  have h5:(if kd=3 then names else []).length≤names.length:=by split<;>simp
  have h6:(if kd=6 then [nm] else []).length≤1:=by split<;>simp
  simp only[cF,List.length_append,Ex.wt]
  omega
def iF (e:Ex):List aD:=cF e.wt e
theorem la (kd:Int) (nm:aD) (nn op:Int) (names:List aD) (ae:List Ex) (binds:List Bd) (alts:List Al):
 iF (.mk kd nm nn op names ae binds alts)=(if kd=3 then names else [])++ae.flatMap iF++binds.flatMap (fun b=>b.name::iF b.e)++(if kd=6 then [nm] else [])++alts.flatMap (fun a=>a.names++iF a.body):=by
 have hp:=(Ex.mk kd nm nn op names ae binds alts).bZ
 obtain⟨m,hm⟩:∃ m,(Ex.mk kd nm nn op names ae binds alts).wt=m+1:=⟨(Ex.mk kd nm nn op names ae binds alts).wt - 1,by omega⟩
 have hw:∀ p∈(Ex.mk kd nm nn op names ae binds alts).parts,cF m p=iF p:=fun p hp=>wQ m p.wt p (by have:=Ex.cm hp;omega) (Nat.le_refl _)
 rw[Ex.ck] at hw
 have h1:ae.flatMap (cF m)=ae.flatMap iF:=by
  rw[List.flatMap_def,List.flatMap_def,List.map_congr_left (g:=iF) fun p hp=>hw p (by simp[hp])]
 have h2:binds.flatMap (fun b=>b.name::cF m b.e)=binds.flatMap (fun b=>b.name::iF b.e):=by
  rw[List.flatMap_def,List.flatMap_def,List.map_congr_left (g:=fun b=>b.name::iF b.e) fun b hb=>by rw[hw b.e (by simp;exact .inr (.inl ⟨b,hb,rfl⟩))]]
 have h3:alts.flatMap (fun a=>a.names++cF m a.body)=alts.flatMap (fun a=>a.names++iF a.body):=by
  rw[List.flatMap_def,List.flatMap_def,List.map_congr_left (g:=fun a=>a.names++iF a.body) fun a ha=>by rw[hw a.body (by simp;exact .inr (.inr ⟨a,ha,rfl⟩))]]
 rw[iF,hm,cF,h1,h2,h3]
theorem ym:∀ (m:Nat) (e:Ex) (st:BO),st.2.Nodup→(eP m e st).2.Nodup
 |0,e,st,h=>by simpa [eP] using h
 |m+1,e,st,h=>by
  rw[eP]
  split
  ·split
   ·exact D5 h _
   ·exact h
  ·generalize bM e=l
   induction l generalizing st with
   |nil=>exact h
   |cons p l ih=>exact ih _ (ym m p.1 (mS st.1 p.2,st.2) h)
theorem IE (e:Ex):(de e).Pairwise (fun x y=>x<y):=by
 have tr:∀ a b c:List UInt8,(decide (a≤b))=true→(decide (b≤c))=true→(decide (a≤c))=true:=fun a b c h1 h2=>by simp only[decide_eq_true_eq] at*;exact List.le_trans h1 h2
 have to:∀ a b:List UInt8,(decide (a≤b)||decide (b≤a))=true:=fun a b=>by simp only[Bool.or_eq_true,decide_eq_true_eq];exact List.le_total a b
 have h1:(de e).Pairwise (fun x y:List UInt8=>(decide (x≤y))=true):=List.pairwise_mergeSort tr to _
 have h2:(de e).Nodup:=(lS _).nodup_iff.2 (ym _ e ([],[]) List.nodup_nil)
 refine List.pairwise_iff_getElem.2 fun i j hi hj hij=>?_
 have h:=List.pairwise_iff_getElem.1 h1 i j hi hj hij
 have hn:=List.pairwise_iff_getElem.1 h2 i j hi hj hij
 generalize (de e)[i]=a at*
 generalize (de e)[j]=b at*
 have h:a≤b:=of_decide_eq_true h
 rcases Classical.em (a<b) with h3|h3
 ·exact h3
 ·exact(hn (List.le_antisymm h h3)).elim
theorem il {α:Type} (f:α→List aD) (pre:List aD) (l:List α):∃ L:Nat→List aD,L 0=pre∧(∀ (i:Nat) (h:i<l.length),L (i+1)=L i++f l[i])∧(∀ i,(L i).length≤(pre++l.flatMap f).length)∧L l.length=pre++l.flatMap f:=by
 refine⟨fun i=>pre++(l.take i).flatMap f,by simp,fun i h=>?_,fun i=>?_,by simp⟩
 ·simp only[List.take_succ_eq_append_getElem h,List.flatMap_append,List.flatMap_cons,List.flatMap_nil,List.append_nil,List.append_assoc]
 ·have h:l.flatMap f=(l.take i).flatMap f++(l.drop i).flatMap f:=by rw[← List.flatMap_append,List.take_append_drop]
  simp only[h,List.length_append];omega
def Qz (G:Gl) (m:Nat):Prop:=∀ (e:Ex) (H:List av),e.wt≤m→e.wt<549755813888→aq Tryz.prog G 75 [e.sv] H (fun r H'=>H'=H++[.cells 0 1 ((cF m e).map .str)]∧r= .sl H.length 0 0 (cF m e).length)
theorem tP (G:Gl) (hG:ah G):∀ m,Qz G m
 |0,e,H,h,_=>absurd e.bZ (by omega)
 |m+1,e,H,hm,hw0=>by
  have hrec:=tP G hG m
  obtain⟨kd,nm,nn,op,names,ae,binds,alts⟩:=e
  have hle:=Ex.dn kd nm nn op names ae binds alts
  have hln:=dH (m+1) (.mk kd nm nn op names ae binds alts)
  have hpw:∀ p∈(Ex.mk kd nm nn op names ae binds alts).parts,p.wt≤m∧p.wt<549755813888:=fun p hp=>by have:=Ex.cm hp;exact⟨by omega,by omega⟩
  rw[Ex.ck] at hpw
  have eb:cF (m+1) (.mk kd nm nn op names ae binds alts)=(if kd=3 then names else [])++ae.flatMap (cF m)++binds.flatMap (fun b=>b.name::cF m b.e)++(if kd=6 then [nm] else [])++alts.flatMap (fun a=>a.names++cF m a.body):=rfl
  rw[eb] at hln ⊢
  clear eb
  have h3n:(if kd=3 then names else []).length≤names.length:=by split<;>simp
  generalize hl0:(if kd=3 then names else [])=l0 at*
  generalize hl5:(if kd=6 then [nm] else [])=l5 at*
  obtain⟨L1,a1,a2,a3,a4⟩:=il (cF m) l0 ae
  rw[← a4] at hln ⊢
  obtain⟨L2,b1,b2,b3,b4⟩:=il (fun b:Bd=>b.name::cF m b.e) (L1 ae.length) binds
  rw[← b4] at hln ⊢
  obtain⟨L4,d1,d2,d3,d4⟩:=il (fun a:Al=>a.names++cF m a.body) (L2 binds.length++l5) alts
  rw[← d4] at hln ⊢
  rw[← a4] at a3
  rw[← b4] at b3
  rw[← d4] at d3
  have q4:(L2 binds.length).length+l5.length≤(L4 alts.length).length:=by have:=d3 0;rw[d1,List.length_append] at this;exact this
  have q2:(L1 ae.length).length≤(L2 binds.length).length:=by have:=b3 0;rw[b1] at this;exact this
  generalize hW:(Ex.mk kd nm nn op names ae binds alts).wt=W at*
  refine bP [3] Tryz.func75 Tryz.ntmps75 fun C R' hR hC hcl hB hC' X=>?_
  (refine iu ?_)
  refine fA (fun _:Unit=>[(1,.ptr H.length 0 0 0),(3,.sl (H.length+1) 0 0 l0.length)]) (fun _=>H++[.cells 0 8 [.agg [.int .i64 kd,.str nm,.int .i64 nn,.int .i64 op,.list 1 (names.map .str),.list 8 (ag ae),.list 9 (ad binds),.list 12 (af alts)]],.cells 0 1 (l0.map .str)]) (fun _=>True) (fun K hK=>?_) (fun _ _=>?_)
  ·(refine bK ?_;with_reducible repeat' first|exact trivial|(apply aJ.mk<;>intro hb)|apply bN.mk)
   ·refine hK _ _ () trivial ?_
    rw[if_pos hb] at hl0
    subst hl0
    exact bI (n0:=H.length) [(H.length,0),(H.length+1,0)] hG hB hC' hcl
   ·refine hK _ _ () trivial ?_
    rw[if_neg hb] at hl0
    subst hl0
    simp only[List.length_nil,List.map_nil]
    exact bI (n0:=H.length) [(H.length,0),(H.length+1,0)] hG hB hC' hcl
  (refine bK ?_)
  refine aA (fun i:Nat=>[(1,.ptr H.length 0 0 0),(3,.sl (H.length+1) 0 0 (L1 i).length),(18,.list 8 (ag ae)),(19,.int .i64 ae.length),(20,.int .i64 i)])
   (fun i=>H++[.cells 0 8 [.agg [.int .i64 kd,.str nm,.int .i64 nn,.int .i64 op,.list 1 (names.map .str),.list 8 (ag ae),.list 9 (ad binds),.list 12 (af alts)]],.cells 0 1 ((L1 i).map .str)]) (fun i=>ae.length - i) (fun i=>i≤ae.length) 0 (Nat.zero_le _) ?_ ?_
  ·rw[a1]
   exact Wk.sub (by simp[aW,look])
  rintro K i hi hK
  rcases Nat.lt_or_ge i ae.length with hlt|hge
  ·have c1:=fun H=>hrec ae[i] H (hpw _ (by simp)).1 (hpw _ (by simp)).2
   have e1:=a2 i hlt
   have e2:=a3 (i+1)
   have e3:=a3 i
   have e4:=dH m ae[i]
   have e5:=(hpw ae[i] (by simp)).2
   rw[e1,List.length_append] at e2
   generalize cF m ae[i]=l at*
   generalize L1 i=l1 at*
   have X:=And.intro aO (show(l1.map SV.str).length=l1.length∧(l.map SV.str).length=l.length from⟨List.length_map ..,List.length_map ..⟩)
   (refine run ?_;with_reducible repeat' first|exact trivial|(apply aJ.mk<;>intro hb)|apply bN.mk)
   refine hK _ _ (i+1) (by omega) (by omega) ?_
   rw[e1,List.map_append,show(l1++l).length=l1.length+l.length from List.length_append ..]
   exact bI (n0:=H.length) [(H.length,0),(H.length+1,0)] hG hB hC' hcl
  obtain rfl:i=ae.length:=by omega
  clear hK
  (refine bK ?_;with_reducible repeat' first|exact trivial|(apply aJ.mk<;>intro hb)|apply bN.mk)
  refine aA (fun i:Nat=>[(1,.ptr H.length 0 0 0),(3,.sl (H.length+1) 0 0 (L2 i).length),(30,.list 9 (ad binds)),(31,.int .i64 binds.length),(32,.int .i64 i)])
   (fun i=>H++[.cells 0 8 [.agg [.int .i64 kd,.str nm,.int .i64 nn,.int .i64 op,.list 1 (names.map .str),.list 8 (ag ae),.list 9 (ad binds),.list 12 (af alts)]],.cells 0 1 ((L2 i).map .str)]) (fun i=>binds.length - i) (fun i=>i≤binds.length) 0 (Nat.zero_le _) ?_ ?_
  ·rw[b1]
   exact Wk.sub (by simp[aW,look])
  rintro K i hi hK
  rcases Nat.lt_or_ge i binds.length with hlt|hge
  ·have hpb:=hpw binds[i].e (by simp;exact .inr (.inl ⟨_,List.getElem_mem hlt,rfl⟩))
   have c1:=fun H=>hrec binds[i].e H hpb.1 hpb.2
   have e1:=b2 i hlt
   have e2:=b3 (i+1)
   have e3:=b3 i
   have e4:=dH m binds[i].e
   rw[e1,List.length_append] at e2
   simp only[List.length_cons] at e2
   generalize cF m binds[i].e=l at*
   generalize L2 i=l1 at*
   have X:=And.intro aO (show(l1.map SV.str).length=l1.length∧(l.map SV.str).length=l.length from⟨List.length_map ..,List.length_map ..⟩)
   (refine run ?_;with_reducible repeat' first|exact trivial|(apply aJ.mk<;>intro hb)|apply bN.mk)
   refine hK _ _ (i+1) (by omega) (by omega) ?_
   rw[e1,List.map_append,List.map_cons,show(l1++binds[i].name::l).length=l1.length+(1+l.length) from by simp;omega]
   exact bI (n0:=H.length) [(H.length,0),(H.length+1,0)] hG hB hC' hcl
  obtain rfl:i=binds.length:=by omega
  clear hK
  (refine iu ?_)
  refine eh rfl (by omega) ?_
  (refine iu ?_)
  refine fA (fun _:Unit=>[(1,.ptr H.length 0 0 0),(3,.sl (H.length+1) 0 0 (L2 binds.length++l5).length)]) (fun _=>H++[.cells 0 8 [.agg [.int .i64 kd,.str nm,.int .i64 nn,.int .i64 op,.list 1 (names.map .str),.list 8 (ag ae),.list 9 (ad binds),.list 12 (af alts)]],.cells 0 1 ((L2 binds.length++l5).map .str)]) (fun _=>True) (fun K hK=>?_) (fun _ _=>?_)
  ·have X:=And.intro aO (show((L2 binds.length).map SV.str).length=(L2 binds.length).length from List.length_map ..)
   (refine bK ?_;with_reducible repeat' first|exact trivial|(apply aJ.mk<;>intro hb)|apply bN.mk)
   ·refine hK _ _ () trivial ?_
    rw[if_pos hb] at hl5
    subst hl5
    rw[List.map_append,List.length_append,List.length_singleton]
    exact bI (n0:=H.length) [(H.length,0),(H.length+1,0)] hG hB hC' hcl
   ·refine hK _ _ () trivial ?_
    rw[if_neg hb] at hl5
    subst hl5
    rw[List.append_nil]
    exact bI (n0:=H.length) [(H.length,0),(H.length+1,0)] hG hB hC' hcl
  (refine bK ?_)
  refine aA (fun i:Nat=>[(1,.ptr H.length 0 0 0),(3,.sl (H.length+1) 0 0 (L4 i).length),(55,.list 12 (af alts)),(56,.int .i64 alts.length),(57,.int .i64 i)])
   (fun i=>H++[.cells 0 8 [.agg [.int .i64 kd,.str nm,.int .i64 nn,.int .i64 op,.list 1 (names.map .str),.list 8 (ag ae),.list 9 (ad binds),.list 12 (af alts)]],.cells 0 1 ((L4 i).map .str)]) (fun i=>alts.length - i) (fun i=>i≤alts.length) 0 (Nat.zero_le _) ?_ ?_
  ·rw[d1]
   exact Wk.sub (by simp[aW,look])
  rintro K i hi hK
  rcases Nat.lt_or_ge i alts.length with hlt|hge
  ·have hpb:=hpw alts[i].body (by simp;exact .inr (.inr ⟨_,List.getElem_mem hlt,rfl⟩))
   have c1:=fun H=>hrec alts[i].body H hpb.1 hpb.2
   have e1:=d2 i hlt
   have e2:=d3 (i+1)
   have e3:=d3 i
   have e4:=dH m alts[i].body
   rw[e1,List.length_append] at e2
   simp only[List.length_append] at e2
   generalize cF m alts[i].body=l at*
   generalize L4 i=l1 at*
   have X:=And.intro aO (show(l1.map SV.str).length=l1.length∧(l.map SV.str).length=l.length from⟨List.length_map ..,List.length_map ..⟩)
   (refine run ?_;with_reducible repeat' first|exact trivial|(apply aJ.mk<;>intro hb)|apply bN.mk)
   refine hK _ _ (i+1) (by omega) (by omega) ?_
   rw[e1,List.map_append,List.map_append,show(l1++(alts[i].names++l)).length=l1.length+(alts[i].names.length+l.length) from by simp]
   exact bI (n0:=H.length) [(H.length,0),(H.length+1,0)] hG hB hC' hcl
  obtain rfl:i=alts.length:=by omega
  clear hK
  (refine bK ?_;with_reducible repeat' first|exact trivial|(apply aJ.mk<;>intro hb)|apply bN.mk)
  exact gD [(H.length+1,0)] (.sl H.length 0 0 (L4 alts.length).length) [.cells 0 1 ((L4 alts.length).map .str)] hR hC' hcl ⟨rfl,rfl⟩
structure Cn where
 name:aD
 arity:Int
 tag:Int
 family:Int
deriving DecidableEq,Inhabited
def Cn.cells (c:Cn):List SV:=[.str c.name,.int .i64 c.arity,.int .i64 c.tag,.int .i64 c.family]
def Cn.sv (c:Cn):SV:= .agg c.cells
def ay (l:List Cn):List SV:=l.map Cn.sv
structure Pg where
 cons:List Cn
 binds:List Bd
def Pg.cells (p:Pg):List SV:=[.list 4 (ay p.cons),.list 9 (ad p.binds)]
def Pg.sv (p:Pg):SV:= .agg p.cells
theorem cU (l:List Cn):(ay l).length=l.length:=by simp[ay]
theorem mo (l:List Cn) {i:Nat} (h:i<l.length):(ay l)[i]? =some (.agg l[i].cells):=by simp[ay,h,Cn.sv]
theorem yL (l:List Cn) (i:Nat):(ay l)[i]? =l[i]?.map fun c=> .agg [.str c.name,.int .i64 c.arity,.int .i64 c.tag,.int .i64 c.family]:=by simp[ay,Cn.sv,Cn.cells];rfl
attribute [go_sem] cU yL
theorem aX (n:Nat) (l:List Cn):SV.aj n (ay l)=true:=SV.aT fun _ _=>by simp[Cn.sv,Cn.cells,SV.under,SV.aj]
theorem Cn.au (c:Cn):c.cells.length=4:=rfl
def wm:Nat→(Ex→Bool)→Ex→Bool
 |0,_,_=>true
 |m+1,p,e=>p e&&e.parts.all (wm m p)
theorem wH (p:Ex→Bool):∀ (m m':Nat) (e:Ex),e.wt≤m→e.wt≤m'→wm m p e=wm m' p e
 |0,_,e,h,_=>absurd e.bZ (by omega)
 |m+1,0,e,_,h=>absurd e.bZ (by omega)
 |m+1,m'+1,e,h,h'=>by
  have h1:e.parts.all (wm m p)=e.parts.all (wm m' p):=by
   rw[Bool.eq_iff_iff,List.all_eq_true,List.all_eq_true]
   refine forall_congr' fun x=>forall_congr' fun hx=>?_
   have:=Ex.cm hx
   rw[wH p m m' x (by omega) (by omega)]
  rw[wm,wm,h1]
def eM (p:Ex→Bool) (e:Ex):Bool:=wm e.wt p e
theorem dk (p:Ex→Bool) (e:Ex):eM p e=(p e&&e.parts.all (eM p)):=by
 have hp:=e.bZ
 obtain⟨m,hm⟩:∃ m,e.wt=m+1:=⟨e.wt - 1,by omega⟩
 have h1:e.parts.all (wm m p)=e.parts.all (eM p):=by
  rw[Bool.eq_iff_iff,List.all_eq_true,List.all_eq_true]
  refine forall_congr' fun x=>forall_congr' fun hx=>?_
  have:=Ex.cm hx
  rw[eM,wH p m x.wt x (by omega) (Nat.le_refl _)]
 rw[eM,hm,wm,h1]
def kZ (op:Int):Int:=if 1≤op∧op≤8 then 2 else if op=10 then 1 else if op=9∨op=11 then 0 else -1
def gb (a:Al):Bool:=if a.kind=1 then !decide (a.n=0) else if a.kind=2 then (!decide (a.name=[])||decide (0<a.names.length)) else if a.kind=3 then (!decide (a.name=[])||decide (0<a.names.length)||!decide (a.n=0)) else true
def mc (name names binds alts op n:Bool) (ae:Int):Ex→Bool
 | .mk kd nm nn o ns ss bs als=>(!name&&!decide (nm=[]))||(!names&&decide (0<ns.length))||(!binds&&decide (0<bs.length))||(!alts&&decide (0<als.length))||(!op&&!decide (o=0))||(op&&decide (kZ o<0))||(!n&&!decide (nn=0))||(decide (0≤ae)&&!decide ((ss.length:Int)=ae))
def sU (e:Ex):Bool:=
 if e.kind=1 then !mc true false false false false false 0 e&&!(e.alts.any gb)
 else if e.kind=2 then !mc false false false false false true 0 e&&!(e.alts.any gb)
 else if e.kind=3 then !mc false true false false false false 1 e&&!(e.alts.any gb)
 else if e.kind=4 then !mc false false false false false false (-1) e&&!(e.alts.any gb)
 else if e.kind=5 then !mc false false true false false false 1 e&&!(e.alts.any gb)
 else if e.kind=6 then !mc true false false true false false 1 e&&!(e.alts.any gb)
 else if e.kind=7 then !mc true false false false false false (-1) e&&!(e.alts.any gb)
 else if e.kind=8 then !mc false false false false true false (-1) e&&!(e.alts.any gb)
 else false
def s4 (l:List Cn):List (SV×SV):=l.map fun c=>(.str c.name,c.sv)
def eN:List Cn→aD→Option Cn
 |[],_=>none
 |c::r,s=>if s=c.name then some c else eN r s
def PH:Cn:=⟨[],0,0,0⟩
def fK (l:List Cn) (s:aD):Cn:=(eN l s).getD PH
theorem pc:∀ (l:List Cn) (s:aD),bO (s4 l) (.str s)=(eN l s).map Cn.sv
 |[],s=>rfl
 |c::r,s=>by
  simp only[s4,List.map_cons,bO,SV.ey,eN]
  by_cases h:s=c.name
  ·simp[h]
  ·simp only[beq_eq_false_iff_ne.2 h,h,if_false,Bool.false_eq_true]
   exact pc r s
theorem Bu (l:List Cn) (s:aD):(bO (s4 l) (.str s)).getD (.agg [.str [],.int .i64 0,.int .i64 0,.int .i64 0])= .agg (fK l s).cells:=by
 rw[pc,fK]
 cases eN l s<;>rfl
theorem EL (l:List Cn) (s:aD):(bO (s4 l) (.str s)).isSome=(eN l s).isSome:=by
 rw[pc];cases eN l s<;>rfl
theorem ya:∀ (l:List Cn) (c:Cn),eN l c.name=none→cN (s4 l) (.str c.name) (.agg c.cells)=s4 (l++[c])
 |[],c,_=>rfl
 |d::r,c,h=>by
  simp only[s4,List.map_cons,cN,SV.ey,eN,List.cons_append] at h ⊢
  by_cases h2:c.name=d.name
  ·rw[if_pos h2] at h;cases h
  ·rw[if_neg h2] at h
   simp only[beq_eq_false_iff_ne.2 h2,if_false,Bool.false_eq_true]
   rw[show cN (List.map _ r) (.str c.name) (.agg c.cells)=_ from ya r c h]
   rfl
theorem wY (n:Nat):∀ l:List Cn,dq n (s4 l)=true
 |[]=>rfl
 |p::l=>by simp only[s4,List.map_cons,dq,SV.under,SV.aj,Cn.sv,Cn.cells,Bool.and_self,Bool.true_and];exact wY n l
def OZ (a b:aD):Bool:=decide (a=b)
def zP (l:List Cn) (c:Cn):Bool:=!((eN l c.name).isSome||OZ c.name []||decide (c.arity<0)||decide (100<c.arity)||decide (c.family<1)||decide (1000<c.family)||decide (c.tag<0)||decide (c.family≤c.tag))
def ga:List Cn→List Cn→Bool
 |_,[]=>true
 |l,c::r=>zP l c&&ga (l++[c]) r
theorem xU:∀ (r l:List Cn),ga l r=(List.range r.length).all fun i=>zP (l++r.take i) (r.getD i PH)
 |[],l=>rfl
 |c::r,l=>by
  rw[ga,xU r,List.length_cons,List.range_succ_eq_map,List.all_cons,List.all_map]
  simp[Function.comp_def]
def ew (l:List Cn) (s:aD) (k:Int):Bool:=(eN l s).isSome&&decide ((fK l s).arity=k)
def l9 (l:List Cn) (e:Ex):Bool:=
 if e.kind=3 then decide (0<e.names.length) else if e.kind=4 then decide (1<e.ae.length) else if e.kind=5 then decide (0<e.binds.length)
 else if e.kind=7 then ew l e.name e.ae.length else if e.kind=8 then decide ((e.ae.length:Int)=kZ e.op)
 else !(e.alts.any fun a=>decide (a.kind=1)&&!ew l a.name a.names.length)
def fP (l:List Al):List Al:=if l.length=0 then l else if ((l.getLast?.map Al.kind).getD 0)=3 then l.take (l.length - 1) else l
def vj (cs:List Cn) (l:List Al) (k0:Int) (s0:aD) (a:Al):Bool:=
 decide (a.kind=3)||!decide (a.kind=k0)||(decide (a.name∈l.map Al.name)&&decide (a.kind=1))||(decide (a.n∈l.map Al.n)&&decide (a.kind=2))||(decide (a.kind=1)&&!decide ((fK cs a.name).family=(fK cs s0).family))
def jv (cs:List Cn) (k0:Int) (s0:aD):List Al→List Al→Bool
 |_,[]=>false
 |l,a::r=>vj cs l k0 s0 a||jv cs k0 s0 (l++[a]) r
def Mb (l:List Al):Int:=(l.head?.map Al.kind).getD 0
def Nj (l:List Al):aD:=(l.head?.map Al.name).getD []
def sP (cs:List Cn) (e:Ex):Bool:=if e.kind≠6 then true else !jv cs (Mb (fP e.alts)) (Nj (fP e.alts)) [] (fP e.alts)&&decide (0<e.alts.length)
def kh:List Cn:=[⟨[80,114,105,109,46,70,97,108,115,101],0,0,2⟩,⟨[80,114,105,109,46,84,114,117,101],0,1,2⟩,⟨[80,114,105,109,46,40,41],0,0,1⟩,⟨[80,114,105,109,46,66,111,120],1,0,1⟩]
def mV (l:List Cn):Bool:=kh.all fun c=>decide (fK l c.name=c)
def aU (l:List Bd):List aD:=l.flatMap fun b=>b.name::iF b.e
def dz (l:List aD):Nat→List aD
 |0=>[]
 |m+1=>if 0<m∧l.getD m []=l.getD (m - 1) [] then dz l m else dz l m++[l.getD m []]
def sQ (l:List aD):List aD:=dz l l.length
def dd (l:List Bd):Bool:=(decide (0<(aU l).length)&&OZ ((cW (aU l)).getD 0 []) [])||decide ((sQ (cW (aU l))).length≠(aU l).length)
def lW (l:List Bd):List (aD×Int):=l.foldl (fun t b=>kU t b.name 1) []
def sO (t:List (aD×Int)) (b:Bd):Bool:=decide ((eP b.e.wt b.e (t,[])).2.length=0)
def ct:aD:=[77,97,105,110,46,109,97,105,110]
def e9 (l:List Bd):Nat:=(l.map fun b=>b.e.size).sum
def oZ (l:List Bd):Nat:=gJ (l.map fun b=>dep b.e)
def bJ (p:Pg):Int:=
 if 100000<e9 p.binds then 3 else if 1000<oZ p.binds then 4
 else if !(p.binds.all fun b=>eM sU b.e) then 120
 else if !ga [] p.cons then 121
 else if dd p.binds then 122
 else if !(p.binds.all (sO (lW p.binds))) then 123
 else if !(mV p.cons&&p.binds.all fun b=>eM (l9 p.cons) b.e) then 124
 else if !(p.binds.all fun b=>eM (sP p.cons) b.e) then 125
 else if da (lW p.binds) ct=0 then 126 else 0
theorem uM {α:Type} (p:α→Bool) (l:List α):(match l.findIdx? p with|some i=>decide (0≤(i:Int))|none=>false)=l.any p:=by
 cases h:l.findIdx? p with
 |none=>rw[List.findIdx?_eq_none_iff] at h;simp only;symm;rw[List.any_eq_false];intro x hx;simp[h x hx]
 |some i=>
  obtain⟨hi,hp,_⟩:=List.findIdx?_eq_some_iff_getElem.1 h
  have:(0:Int)≤i:=by omega
  simp only[this,decide_true]
  symm;rw[List.any_eq_true]
  exact⟨_,List.getElem_mem hi,hp⟩
theorem AB (G:Gl) (hG:ah G) (f:SV) (p:Bd→Bool) (V:List Bd) (H:List av) (hl:V.length<1125899906842624) (hfu:f.under H.length=true)
 (hf:∀ x∈V,aY Tryz.prog G f [x.sv] H (fun r H'=>H'=H∧r= .bool (p x))):
 aq Tryz.prog G 31 [.list 9 (ad V),f] H (fun r H'=>H'=H∧r= .bool (V.any p)):=by
 have hidx:aq Tryz.prog G 55 [.list 9 (ad V),f] H (fun r H'=>H'=H∧r= .int .i64 (match V.findIdx? p with|some i=>(i:Int)|none=> -1)):=by
  have hlm:(ad V).length=V.length:=by rw[az,List.length_map]
  refine bP [] Tryz.func55 Tryz.ntmps55 fun C R' hR hC hcl hB hC' X=>?_
  have X:=And.intro X hlm
  have hcl1:=hcl
  (refine run ?_)
  refine aA (fun k:Nat=>[(0,.list 9 (ad V)),(1,f),(7,.int .i64 V.length),(8,.int .i64 k)]) (fun _=>H) (fun k=>V.length - k) (fun k=>k≤V.length∧∀ x∈V.take k,p x=false) 0 ⟨Nat.zero_le _,by simp⟩ (Wk.sub (by simp[aW,look])) ?_
  rintro K k ⟨hk,hno⟩ hK
  rcases Nat.lt_or_ge k V.length with hlt|hge
  ·have e1:(ad V)[k]? =some (.agg V[k].cells):=by simp[az,hlt,Bd.sv]
   have hfk:=hf V[k] (List.getElem_mem hlt)
   have hsv:V[k].sv= .agg V[k].cells:=rfl
   rw[hsv] at hfk
   have X:=And.intro X e1
   (refine run ?_;with_reducible repeat' first|exact trivial|(apply aJ.mk<;>intro hb)|apply bN.mk)
   refine eS hfk ?_
   rintro r H' ⟨rfl,rfl⟩
   (refine run ?_;with_reducible repeat' first|exact trivial|(apply aJ.mk<;>intro hb)|apply bN.mk)
   ·have hfi:V.findIdx? p=some k:=by
     rw[List.findIdx?_eq_some_iff_getElem]
     refine⟨hlt,by simpa using hb,fun j hj=>?_⟩
     have:=hno (V[j]'(by omega)) (by rw[List.mem_take_iff_getElem];exact⟨j,by omega,rfl⟩)
     simp[this]
    refine Fin.out hR ⟨rfl,?_⟩
    simp only[aC,hfi]
   ·refine hK _ _ (k+1) (by omega) ⟨by omega,?_⟩ (Wk.sub (by simp[aW,look]))
    rw[List.take_succ_eq_append_getElem hlt]
    intro x hx
    rcases List.mem_append.1 hx with hx|hx
    ·exact hno x hx
    ·rw[List.mem_singleton.1 hx];exact hb
  ·have:k=V.length:=by omega
   subst this
   clear hK
   have X:=And.intro X (Int.lt_irrefl (V.length:Int))
   (refine run ?_)
   have hfi:V.findIdx? p=none:=by rw[List.findIdx?_eq_none_iff];rw[List.take_length] at hno;exact hno
   refine Fin.out hR ⟨rfl,?_⟩
   simp only[aC,hfi]
 have h2:=uM p V
 generalize hI:(match V.findIdx? p with|some i=>(i:Int)|none=> -1)=I at hidx
 refine bP [] Tryz.func31 Tryz.ntmps31 fun C R' hR hC hcl hB hC' X=>?_
 (refine run ?_)
 refine br hidx ?_
 rintro r H' ⟨rfl,rfl⟩
 (refine run ?_)
 refine Fin.out hR ⟨rfl,?_⟩
 rw[← h2,← hI]
 simp only[aC]
 cases V.findIdx? p with
 |none=>rfl
 |some i=>rfl
theorem Az (G:Gl) (hG:ah G) (f:SV) (p:Al→Bool) (V:List Al) (H:List av) (hl:V.length<1125899906842624) (hfu:f.under H.length=true)
 (hf:∀ x∈V,aY Tryz.prog G f [x.sv] H (fun r H'=>H'=H∧r= .bool (p x))):
 aq Tryz.prog G 82 [.list 12 (af V),f] H (fun r H'=>H'=H∧r= .bool (V.any p)):=by
 have hidx:aq Tryz.prog G 117 [.list 12 (af V),f] H (fun r H'=>H'=H∧r= .int .i64 (match V.findIdx? p with|some i=>(i:Int)|none=> -1)):=by
  have hlm:(af V).length=V.length:=by rw[bh,List.length_map]
  refine bP [] Tryz.func117 Tryz.ntmps117 fun C R' hR hC hcl hB hC' X=>?_
  have X:=And.intro X hlm
  have hcl1:=hcl
  (refine run ?_)
  refine aA (fun k:Nat=>[(0,.list 12 (af V)),(1,f),(7,.int .i64 V.length),(8,.int .i64 k)]) (fun _=>H) (fun k=>V.length - k) (fun k=>k≤V.length∧∀ x∈V.take k,p x=false) 0 ⟨Nat.zero_le _,by simp⟩ (Wk.sub (by simp[aW,look])) ?_
  rintro K k ⟨hk,hno⟩ hK
  rcases Nat.lt_or_ge k V.length with hlt|hge
  ·have e1:(af V)[k]? =some (.agg V[k].cells):=by simp[bh,hlt,Al.sv]
   have hfk:=hf V[k] (List.getElem_mem hlt)
   have hsv:V[k].sv= .agg V[k].cells:=rfl
   rw[hsv] at hfk
   have X:=And.intro X e1
   (refine run ?_;with_reducible repeat' first|exact trivial|(apply aJ.mk<;>intro hb)|apply bN.mk)
   refine eS hfk ?_
   rintro r H' ⟨rfl,rfl⟩
   (refine run ?_;with_reducible repeat' first|exact trivial|(apply aJ.mk<;>intro hb)|apply bN.mk)
   ·have hfi:V.findIdx? p=some k:=by
     rw[List.findIdx?_eq_some_iff_getElem]
     refine⟨hlt,by simpa using hb,fun j hj=>?_⟩
     have:=hno (V[j]'(by omega)) (by rw[List.mem_take_iff_getElem];exact⟨j,by omega,rfl⟩)
     simp[this]
    refine Fin.out hR ⟨rfl,?_⟩
    simp only[aC,hfi]
   ·refine hK _ _ (k+1) (by omega) ⟨by omega,?_⟩ (Wk.sub (by simp[aW,look]))
    rw[List.take_succ_eq_append_getElem hlt]
    intro x hx
    rcases List.mem_append.1 hx with hx|hx
    ·exact hno x hx
    ·rw[List.mem_singleton.1 hx];exact hb
  ·have:k=V.length:=by omega
   subst this
   clear hK
   have X:=And.intro X (Int.lt_irrefl (V.length:Int))
   (refine run ?_)
   have hfi:V.findIdx? p=none:=by rw[List.findIdx?_eq_none_iff];rw[List.take_length] at hno;exact hno
   refine Fin.out hR ⟨rfl,?_⟩
   simp only[aC,hfi]
 have h2:=uM p V
 generalize hI:(match V.findIdx? p with|some i=>(i:Int)|none=> -1)=I at hidx
 refine bP [] Tryz.func82 Tryz.ntmps82 fun C R' hR hC hcl hB hC' X=>?_
 (refine run ?_)
 refine br hidx ?_
 rintro r H' ⟨rfl,rfl⟩
 (refine run ?_)
 refine Fin.out hR ⟨rfl,?_⟩
 rw[← h2,← hI]
 simp only[aC]
 cases V.findIdx? p with
 |none=>rfl
 |some i=>rfl
theorem tL (G:Gl) (hG:ah G) (f:SV) (p:Ex→Bool) (V:List Ex) (H:List av) (hl:V.length<1125899906842624) (hfu:f.under H.length=true)
 (hf:∀ x∈V,aY Tryz.prog G f [x.sv] H (fun r H'=>H'=H∧r= .bool (p x))):
 aq Tryz.prog G 86 [.list 8 (ag V),f] H (fun r H'=>H'=H∧r= .bool (V.any p)):=by
 have hidx:aq Tryz.prog G 118 [.list 8 (ag V),f] H (fun r H'=>H'=H∧r= .int .i64 (match V.findIdx? p with|some i=>(i:Int)|none=> -1)):=by
  have hlm:(ag V).length=V.length:=by rw[aL,List.length_map]
  refine bP [] Tryz.func118 Tryz.ntmps118 fun C R' hR hC hcl hB hC' X=>?_
  have X:=And.intro X hlm
  have hcl1:=hcl
  (refine run ?_)
  refine aA (fun k:Nat=>[(0,.list 8 (ag V)),(1,f),(7,.int .i64 V.length),(8,.int .i64 k)]) (fun _=>H) (fun k=>V.length - k) (fun k=>k≤V.length∧∀ x∈V.take k,p x=false) 0 ⟨Nat.zero_le _,by simp⟩ (Wk.sub (by simp[aW,look])) ?_
  rintro K k ⟨hk,hno⟩ hK
  rcases Nat.lt_or_ge k V.length with hlt|hge
  ·have e1:(ag V)[k]? =some (.agg V[k].cells):=by simp[aL,hlt,Ex.sv]
   have hfk:=hf V[k] (List.getElem_mem hlt)
   have hsv:V[k].sv= .agg V[k].cells:=rfl
   rw[hsv] at hfk
   have X:=And.intro X e1
   (refine run ?_;with_reducible repeat' first|exact trivial|(apply aJ.mk<;>intro hb)|apply bN.mk)
   refine eS hfk ?_
   rintro r H' ⟨rfl,rfl⟩
   (refine run ?_;with_reducible repeat' first|exact trivial|(apply aJ.mk<;>intro hb)|apply bN.mk)
   ·have hfi:V.findIdx? p=some k:=by
     rw[List.findIdx?_eq_some_iff_getElem]
     refine⟨hlt,by simpa using hb,fun j hj=>?_⟩
     have:=hno (V[j]'(by omega)) (by rw[List.mem_take_iff_getElem];exact⟨j,by omega,rfl⟩)
     simp[this]
    refine Fin.out hR ⟨rfl,?_⟩
    simp only[aC,hfi]
   ·refine hK _ _ (k+1) (by omega) ⟨by omega,?_⟩ (Wk.sub (by simp[aW,look]))
    rw[List.take_succ_eq_append_getElem hlt]
    intro x hx
    rcases List.mem_append.1 hx with hx|hx
    ·exact hno x hx
    ·rw[List.mem_singleton.1 hx];exact hb
  ·have:k=V.length:=by omega
   subst this
   clear hK
   have X:=And.intro X (Int.lt_irrefl (V.length:Int))
   (refine run ?_)
   have hfi:V.findIdx? p=none:=by rw[List.findIdx?_eq_none_iff];rw[List.take_length] at hno;exact hno
   refine Fin.out hR ⟨rfl,?_⟩
   simp only[aC,hfi]
 have h2:=uM p V
 generalize hI:(match V.findIdx? p with|some i=>(i:Int)|none=> -1)=I at hidx
 refine bP [] Tryz.func86 Tryz.ntmps86 fun C R' hR hC hcl hB hC' X=>?_
 (refine run ?_)
 refine br hidx ?_
 rintro r H' ⟨rfl,rfl⟩
 (refine run ?_)
 refine Fin.out hR ⟨rfl,?_⟩
 rw[← h2,← hI]
 simp only[aC]
 cases V.findIdx? p with
 |none=>rfl
 |some i=>rfl
theorem Ih (G:Gl) (hG:ah G) (e:Ex) (hw:e.wt<549755813888) (fv:SV) (p:Ex→Bool) (H:List av) (hfu:fv.under H.length=true)
 (hy:∀ x∈e.parts,∀ X,aY Tryz.prog G fv [x.sv] (H++X) (fun r H'=>H'=H++X∧r= .bool (p x))):
 aq Tryz.prog G 72 [e.sv,fv] H (fun r H'=>H'=H∧r= .bool (e.parts.all p)):=by
 obtain⟨kd,nm,nn,op,names,ae,binds,alts⟩:=e
 have hle:=Ex.dn kd nm nn op names ae binds alts
 rw[Ex.ck] at hy ⊢
 rw[List.all_append,List.all_append,List.all_map,List.all_map]
 have p1:∀ i (h:i<ae.length),ae[i]∈ae++(binds.map Bd.e++alts.map Al.body):=fun i h=>List.mem_append_left _ (List.getElem_mem h)
 have p2:∀ i (h:i<binds.length),binds[i].e∈ae++(binds.map Bd.e++alts.map Al.body):=fun i h=>List.mem_append_right _ (List.mem_append_left _ (List.mem_map.2 ⟨_,List.getElem_mem h,rfl⟩))
 have p3:∀ i (h:i<alts.length),alts[i].body∈ae++(binds.map Bd.e++alts.map Al.body):=fun i h=>List.mem_append_right _ (List.mem_append_right _ (List.mem_map.2 ⟨_,List.getElem_mem h,rfl⟩))
 refine bP [] Tryz.func72 Tryz.ntmps72 fun C R' hR hC hcl hB hC' X=>?_
 have X:=aO
 (refine bK ?_)
 refine aA (fun i:Nat=>[(1,fv),(2,.ptr H.length 0 0 0),(12,.list 8 (ag ae)),(13,.int .i64 ae.length),(14,.int .i64 i)])
  (fun i=>H++[.cells 0 8 [.agg [.int .i64 kd,.str nm,.int .i64 nn,.int .i64 op,.list 1 (names.map .str),.list 8 (ag ae),.list 9 (ad binds),.list 12 (af alts)]]]) (fun i=>ae.length - i) (fun i=>i≤ae.length∧∀ x∈ae.take i,p x=true) 0 ⟨Nat.zero_le _,by simp⟩ ?_ ?_
 ·exact bI (n0:=H.length) [(H.length,0)] hG hB hC' hcl
 rintro K i ⟨hi,hno⟩ hK
 rcases Nat.lt_or_ge i ae.length with hlt|hge
 ·(refine bK ?_;with_reducible repeat' first|exact trivial|(apply aJ.mk<;>intro hb)|apply bN.mk)
  refine eS (hy _ (p1 i (by omega)) _) ?_
  rintro r H' ⟨rfl,rfl⟩
  generalize hpv:p ae[i]=pv
  cases pv
  ·have ef:ae.all p=false:=by rw[List.all_eq_false];exact⟨_,List.getElem_mem hlt,by simp[hpv]⟩
   (refine bK ?_)
   exact aZ (n0:=H.length) hR hC' hcl (.same _ rfl) ⟨rfl,by simp[ef,aC]⟩
  ·(refine bK ?_)
   refine hK _ _ (i+1) (by omega) ⟨by omega,?_⟩ ?_
   ·rw[List.take_succ_eq_append_getElem hlt]
    intro x hx
    rcases List.mem_append.1 hx with hx|hx
    ·exact hno x hx
    ·rw[List.mem_singleton.1 hx];exact hpv
   ·exact bI (n0:=H.length) [(H.length,0)] hG hB hC' hcl
 obtain rfl:i=ae.length:=by omega
 rw[List.take_length] at hno
 have e1:ae.all p=true:=List.all_eq_true.2 hno
 rw[e1,Bool.true_and] at hR
 clear hK hno
 (refine bK ?_;with_reducible repeat' first|exact trivial|(apply aJ.mk<;>intro hb)|apply bN.mk)
 refine aA (fun i:Nat=>[(1,fv),(2,.ptr H.length 0 0 0),(24,.list 9 (ad binds)),(25,.int .i64 binds.length),(26,.int .i64 i)])
  (fun i=>H++[.cells 0 8 [.agg [.int .i64 kd,.str nm,.int .i64 nn,.int .i64 op,.list 1 (names.map .str),.list 8 (ag ae),.list 9 (ad binds),.list 12 (af alts)]]]) (fun i=>binds.length - i) (fun i=>i≤binds.length∧∀ x∈binds.take i,p x.e=true) 0 ⟨Nat.zero_le _,by simp⟩ ?_ ?_
 ·exact bI (n0:=H.length) [(H.length,0)] hG hB hC' hcl
 rintro K i ⟨hi,hno⟩ hK
 rcases Nat.lt_or_ge i binds.length with hlt|hge
 ·(refine bK ?_;with_reducible repeat' first|exact trivial|(apply aJ.mk<;>intro hb)|apply bN.mk)
  refine eS (hy _ (p2 i (by omega)) _) ?_
  rintro r H' ⟨rfl,rfl⟩
  generalize hpv:p binds[i].e=pv
  cases pv
  ·have ef:binds.all (p∘Bd.e)=false:=by rw[List.all_eq_false];exact⟨_,List.getElem_mem hlt,by simp[hpv]⟩
   (refine bK ?_)
   exact aZ (n0:=H.length) hR hC' hcl (.same _ rfl) ⟨rfl,by simp[ef,aC]⟩
  ·(refine bK ?_)
   refine hK _ _ (i+1) (by omega) ⟨by omega,?_⟩ ?_
   ·rw[List.take_succ_eq_append_getElem hlt]
    intro x hx
    rcases List.mem_append.1 hx with hx|hx
    ·exact hno x hx
    ·rw[List.mem_singleton.1 hx];exact hpv
   ·exact bI (n0:=H.length) [(H.length,0)] hG hB hC' hcl
 obtain rfl:i=binds.length:=by omega
 rw[List.take_length] at hno
 have e2:binds.all (p∘Bd.e)=true:=List.all_eq_true.2 hno
 rw[e2,Bool.true_and] at hR
 clear hK hno
 (refine bK ?_;with_reducible repeat' first|exact trivial|(apply aJ.mk<;>intro hb)|apply bN.mk)
 refine aA (fun i:Nat=>[(1,fv),(2,.ptr H.length 0 0 0),(37,.list 12 (af alts)),(38,.int .i64 alts.length),(39,.int .i64 i)])
  (fun i=>H++[.cells 0 8 [.agg [.int .i64 kd,.str nm,.int .i64 nn,.int .i64 op,.list 1 (names.map .str),.list 8 (ag ae),.list 9 (ad binds),.list 12 (af alts)]]]) (fun i=>alts.length - i) (fun i=>i≤alts.length∧∀ x∈alts.take i,p x.body=true) 0 ⟨Nat.zero_le _,by simp⟩ ?_ ?_
 ·exact bI (n0:=H.length) [(H.length,0)] hG hB hC' hcl
 rintro K i ⟨hi,hno⟩ hK
 rcases Nat.lt_or_ge i alts.length with hlt|hge
 ·(refine bK ?_;with_reducible repeat' first|exact trivial|(apply aJ.mk<;>intro hb)|apply bN.mk)
  refine eS (hy _ (p3 i (by omega)) _) ?_
  rintro r H' ⟨rfl,rfl⟩
  generalize hpv:p alts[i].body=pv
  cases pv
  ·have ef:alts.all (p∘Al.body)=false:=by rw[List.all_eq_false];exact⟨_,List.getElem_mem hlt,by simp[hpv]⟩
   (refine bK ?_)
   exact aZ (n0:=H.length) hR hC' hcl (.same _ rfl) ⟨rfl,by simp[ef,aC]⟩
  ·(refine bK ?_)
   refine hK _ _ (i+1) (by omega) ⟨by omega,?_⟩ ?_
   ·rw[List.take_succ_eq_append_getElem hlt]
    intro x hx
    rcases List.mem_append.1 hx with hx|hx
    ·exact hno x hx
    ·rw[List.mem_singleton.1 hx];exact hpv
   ·exact bI (n0:=H.length) [(H.length,0)] hG hB hC' hcl
 obtain rfl:i=alts.length:=by omega
 rw[List.take_length] at hno
 have e3:alts.all (p∘Al.body)=true:=List.all_eq_true.2 hno
 rw[e3] at hR
 clear hK hno
 (refine bK ?_;with_reducible repeat' first|exact trivial|(apply aJ.mk<;>intro hb)|apply bN.mk)
 exact aZ (n0:=H.length) hR hC' hcl (.same _ rfl) ⟨rfl,rfl⟩
def wg (G:Gl) (fid:FuncId) (fi ca:List SV) (p:Ex→Bool) (H:List av) (m:Nat):Prop:=∀ x:Ex,x.wt≤m→∀ X,aY Tryz.prog G (.fn (.func fid) fi ca) [x.sv] (H++X) (fun r H'=>H'=H++X∧r= .bool (p x))
theorem wg.app {G:Gl} {fid:FuncId} {fi ca:List SV} {p:Ex→Bool} {H:List av} {m:Nat} (h:wg G fid fi ca p H m) (L:List av):wg G fid fi ca p (H++L) m:=fun x hx X=>by rw[List.append_assoc];exact h x hx _
def O5 (G:Gl) (fid:FuncId) (fi ca:List SV) (p:Ex→Bool) (m:Nat):Prop:=∀ (e:Ex) (H:List av),e.wt≤m→(SV.fn (.func fid) fi ca).under H.length=true→wg G fid fi ca p H m→
 aq Tryz.prog G 33 [e.sv,.fn (.func fid) fi ca] H (fun r H'=>H'=H∧r= .bool (eM p e))
theorem HD (G:Gl) (hG:ah G) (fid:FuncId) (fi ca:List SV) (p:Ex→Bool) (m:Nat) (hrec:O5 G fid fi ca p m) (e:Ex) (H:List av) (ib:Nat) (he:e.wt≤m) (hib:H[ib]? =some (.cells 0 1 [.fn (.func fid) fi ca])) (hfu:(SV.fn (.func fid) fi ca).under H.length=true) (hy:wg G fid fi ca p H m):
 aq Tryz.prog G 74 [e.sv,.ptr ib 0 0 0] H (fun r H'=>H'=H∧r= .bool (eM p e)):=by
 have hlt2:ib<H.length:=(List.getElem?_eq_some_iff.1 hib).1
 refine bP [] Tryz.func74 Tryz.ntmps74 fun C R' hR hC hcl hB hC' X=>?_
 have X:=hib
 (refine run ?_)
 refine br (hrec e _ he ((SV.cz (by simp)).1 _ hfu) (hy.app _)) ?_
 rintro r H' ⟨rfl,rfl⟩
 (refine run ?_)
 exact aZ (n0:=H.length) hR hC' hcl (.same _ rfl) ⟨rfl,rfl⟩
theorem wg.mono {G:Gl} {fid:FuncId} {fi ca:List SV} {p:Ex→Bool} {H:List av} {m m':Nat} (h:wg G fid fi ca p H m) (hm:m'≤m):wg G fid fi ca p H m':=fun x hx X=>h x (Nat.le_trans hx hm) X
theorem Ey (G:Gl) (hG:ah G) (fid:FuncId) (fi ca:List SV) (p:Ex→Bool):∀ m,m<549755813888→O5 G fid fi ca p m
 |0,_,e,_,h,_,_=>absurd e.bZ (by omega)
 |m+1,hm2,e,H,hm,hfu,hy=>by
  have hrec:=Ey G hG fid fi ca p m (by omega)
  have hae:=dk p e
  rw[hae]
  refine bP [] Tryz.func33 Tryz.ntmps33 fun C R' hR hC hcl hB hC' X=>?_
  (refine run ?_)
  refine eS (hy e hm _) ?_
  rintro r H' ⟨rfl,rfl⟩
  generalize hpv:p e=pv
  cases pv
  ·(refine run ?_)
   exact aZ (n0:=H.length) hR hC' hcl (.same _ rfl) ⟨rfl,by simp[hpv,aC]⟩
  ·(refine run ?_)
   refine br (Ih G hG e (by omega) (.fn (.func 74) [] [.ptr (H.length+1) 0 0 0]) (eM p) _ (by simp[SV.under,SV.aj]) (fun x hx X=>by
    have hpw:=Ex.cm hx
    refine aY.of (first:=[]) (args:=[x.sv]) (cap:=[.ptr (H.length+1) 0 0 0]) (HD G hG fid fi ca p m hrec x _ (H.length+1) (by omega) (by rw[List.append_assoc];simp) ((SV.cz (by simp)).1 _ hfu) ((hy.mono (by omega)).app _|>.app _)))) ?_
   rintro r H' ⟨rfl,rfl⟩
   (refine run ?_)
   exact aZ (n0:=H.length) hR hC' hcl (.same _ rfl) ⟨rfl,by simp[hpv,aC]⟩
theorem AJ (G:Gl) (op:Int) (H:List av):aq Tryz.prog G 81 [.int .i64 op] H (fun r H'=>H'=H∧r= .int .i64 (kZ op)):=by
 refine bP [] Tryz.func81 Tryz.ntmps81 fun C R' hR hC hcl hB hC' X=>?_
 (refine run ?_;with_reducible repeat' first|exact trivial|(apply aJ.mk<;>intro hb)|apply bN.mk)
 all_goals (simp only[Bool.and_eq_true,Bool.or_eq_true,Bool.and_eq_false_iff,Bool.or_eq_false_iff,decide_eq_true_eq,decide_eq_false_iff_not] at*)
 all_goals refine Fin.out hR ⟨rfl,congrArg (SV.int .i64) ?_⟩
 all_goals unfold kZ
 all_goals first|rw[if_pos (by omega)]|rw[if_neg (by omega),if_pos (by omega)]|rw[if_neg (by omega),if_neg (by omega),if_pos (by omega)]|rw[if_neg (by omega),if_neg (by omega),if_neg (by omega)]
theorem HM (G:Gl) (hG:ah G) (a:Al) (H:List av):aq Tryz.prog G 83 [a.sv] H (fun r H'=>H'=H∧r= .bool (gb a)):=by
 obtain⟨kd,nm,nn,names,body⟩:=a
 have hbl:=body.au
 obtain⟨k2,s2,n2,o2,l2,ss2,bs2,as2⟩:=body
 rw[show(Al.mk kd nm nn names (.mk k2 s2 n2 o2 l2 ss2 bs2 as2)).sv= .agg [.int .i64 kd,.str nm,.int .i64 nn,.list 1 (names.map .str),.int .i64 k2,.str s2,.int .i64 n2,.int .i64 o2,.list 1 (l2.map .str),.list 8 (ag ss2),.list 9 (ad bs2),.list 12 (af as2)] from rfl]
 refine bP [] Tryz.func83 Tryz.ntmps83 fun C R' hR hC hcl hB hC' X=>?_
 (refine run ?_;with_reducible repeat' first|exact trivial|(apply aJ.mk<;>intro hb)|apply bN.mk)
 all_goals (refine aZ (n0:=H.length) hR hC' hcl (.same _ rfl) ⟨rfl,?_⟩;simp_all [aC,gb,Al.kind,Al.n,Al.name,Al.names]<;>congr)
theorem G6 (G:Gl) (hG:ah G) (e:Ex) (hw:e.wt<549755813888) (H:List av):aq Tryz.prog G 40 [e.sv] H (fun r H'=>H'=H∧r= .bool (sU e)):=by
 obtain⟨kd,nm,nn,op,names,ae,binds,alts⟩:=e
 have hle:=Ex.dn kd nm nn op names ae binds alts
 have c1:=fun H=>AJ G op H
 have c2:=Az G hG (.fn (.func 83) [] []) gb alts (H++[.cells 0 8 [.agg [.int .i64 kd,.str nm,.int .i64 nn,.int .i64 op,.list 1 (names.map .str),.list 8 (ag ae),.list 9 (ad binds),.list 12 (af alts)]]]) (by omega) (by simp[SV.under,SV.aj])
  (fun a ha=>aY.of (first:=[]) (args:=[a.sv]) (cap:=[]) (HM G hG a _))
 refine bP [] Tryz.func40 Tryz.ntmps40 fun C R' hR hC hcl hB hC' X=>?_
 (refine run ?_;with_reducible repeat' first|exact trivial|(apply aJ.mk<;>intro hb)|apply bN.mk)
 all_goals refine aZ (n0:=H.length) hR hC' hcl (.same _ rfl) ⟨rfl,?_⟩
 all_goals refine congrArg SV.bool ?_
 all_goals clear c1 c2 hw hle hR hC' hC hcl hB X
 all_goals simp_all [sU,mc,Ex.kind,Ex.alts]
 all_goals (intros;first|omega|(exfalso;omega)|(simp_all;done)|(exfalso;simp_all;omega))
theorem jQ (l:List Cn) (s:aD):(bO (s4 l) (.str s)).getD (.agg [.str [],.int .i64 0,.int .i64 0,.int .i64 0])= .agg [.str (fK l s).name,.int .i64 (fK l s).arity,.int .i64 (fK l s).tag,.int .i64 (fK l s).family]:=Bu l s
structure j7 (H:List av) (lb mb:Nat) (cs:List Cn):Prop where
 l:H[lb]? =some (.cells 0 1 [.agg [.map mb]])
 m:H[mb]? =some (.map none (s4 cs))
theorem j7.app {H:List av} {lb mb:Nat} {cs:List Cn} (h:j7 H lb mb cs) (L:List av):j7 (H++L) lb mb cs:=
 ⟨by rw[dx (List.getElem?_eq_some_iff.1 h.l).1];exact h.l,by rw[dx (List.getElem?_eq_some_iff.1 h.m).1];exact h.m⟩
theorem j7.X {H:List av} {lb mb:Nat} {cs:List Cn} (h:j7 H lb mb cs):(∀ L,(H++L)[lb]? =some (.cells 0 1 [.agg [.map mb]]))∧(∀ L,(H++L)[mb]? =some (.map none (s4 cs)))∧H[lb]? =some (.cells 0 1 [.agg [.map mb]])∧H[mb]? =some (.map none (s4 cs)):=
 ⟨fun L=>(h.app L).l,fun L=>(h.app L).m,h.l,h.m⟩
theorem IZ (G:Gl) (hG:ah G) (H:List av) (lb mb:Nat) (cs:List Cn) (hl:j7 H lb mb cs) (s:aD) (k:Int):aq Tryz.prog G 84 [.ptr lb 0 0 0,.str s,.int .i64 k] H (fun r H'=>H'=H∧r= .bool (ew cs s k)):=by
 refine bP [] Tryz.func84 Tryz.ntmps84 fun C R' hR hC hcl hB hC' X=>?_
 have X:=iY X hl.X (jQ cs s) (EL cs s)
 (refine run ?_)
 exact aZ (n0:=H.length) hR hC' hcl (.same _ rfl) ⟨rfl,by simp only[aC,ew]⟩
theorem QV {H:List av} {lb mb:Nat} {es:List (SV×SV)} (h1:H[lb]? =some (.cells 0 1 [.agg [.map mb]])) (h2:H[mb]? =some (.map none es)):
 (∀ l L,(H.set mb (.map none (s4 l))++L)[lb]? =some (.cells 0 1 [.agg [.map mb]]))∧(∀ l L,(H.set mb (.map none (s4 l))++L)[mb]? =some (.map none (s4 l)))∧
 (∀ l l2 L,(H.set mb (.map none (s4 l))++L).set mb (.map none (s4 l2))=H.set mb (.map none (s4 l2))++L):=by
 have hne:lb≠mb:=fun e=>by rw[e,h2] at h1;cases h1
 have l1:=(List.getElem?_eq_some_iff.1 h1).1
 have l2:=(List.getElem?_eq_some_iff.1 h2).1
 refine⟨fun l L=>?_,fun l L=>?_,fun l l2' L=>?_⟩
 ·rw[List.getElem?_append_left (by simpa using l1),List.getElem?_set_ne (fun e=>hne e.symm)];exact h1
 ·rw[List.getElem?_append_left (by simpa using l2),List.getElem?_set_self l2]
 ·rw[gY (by simpa using l2),List.set_set]
theorem QU {H:List av} {lb mb:Nat} (h1:H[lb]? =some (.cells 0 1 [.agg [.map mb]])) (h2:H[mb]? =some (.map none [])):
 ∃ Q:List Cn→List av,Q []=H∧(∀ l,Q l=H.set mb (.map none (s4 l)))∧(∀ l,(Q l).length=H.length)∧((∀ l L,(Q l++L)[lb]? =some (.cells 0 1 [.agg [.map mb]]))∧(∀ l L,(Q l++L)[mb]? =some (.map none (s4 l)))∧
 (∀ l l2 L,(Q l++L).set mb (.map none (s4 l2))=Q l2++L))∧(closed H→∀ l,closed (Q l)):=
 ⟨fun l=>H.set mb (.map none (s4 l)),dM h2,fun l=>rfl,fun l=>by simp,QV h1 h2,fun hc l=>hc.set (wY _ _)⟩
theorem JQ {l:List Cn} {c:Cn} (h:zP l c=true):eN l c.name=none:=by
 unfold zP at h
 cases hf:eN l c.name with
 |none=>rfl
 |some d=>rw[hf] at h;simp at h
theorem Mq (G:Gl) (hG:ah G) (H:List av) (lb mb:Nat) (cons:List Cn) (h1:H[lb]? =some (.cells 0 1 [.agg [.map mb]])) (h2:H[mb]? =some (.map none [])) (hn:cons.length<1099511627776):
 aq Tryz.prog G 41 [.ptr lb 0 0 0,.list 4 (ay cons)] H (fun r H'=>∃ l,(H'=H.set mb (.map none (s4 l))∧r= .bool (ga [] cons))∧(ga [] cons=true→l=cons)):=by
 obtain⟨Q,q0,qd,hlen,qx,qc⟩:=QU h1 h2
 have hlm:=cU cons
 have l1:=(List.getElem?_eq_some_iff.1 h1).1
 have l2:=(List.getElem?_eq_some_iff.1 h2).1
 simp only[← qd]
 rw[← q0]
 refine bP [] Tryz.func41 Tryz.ntmps41 fun C R' hR hC hcl hB hC' X=>?_
 have hC':=hC'.trans (hlen [])
 have hcls:∀ l,closed (Q l):=fun l=>qc (q0 ▸ hcl) l
 generalize H.length=n0 at*
 have hx2:=Px Q n0 hlen
 have X:=iY X qx hx2 hlm
 (refine run ?_)
 refine aA (fun i:Nat=>[(0,.ptr lb 0 0 0),(9,.list 4 (ay cons)),(10,.int .i64 cons.length),(11,.int .i64 i)]) (fun i=>Q (cons.take i)++[]) (fun i=>cons.length - i)
  (fun i=>i≤cons.length∧ga (cons.take i) (cons.drop i)=ga [] cons) 0 ⟨Nat.zero_le _,rfl⟩ ?_ ?_
 ·simp only[List.take_zero,List.append_nil]
  exact Wk.sub (by simp[aW,look])
 rintro K i ⟨hi,hok⟩ hK
 rcases Nat.lt_or_ge i cons.length with hlt|hge
 ·have e1:(ay cons)[i]? =some (.agg [.str cons[i].name,.int .i64 cons[i].arity,.int .i64 cons[i].tag,.int .i64 cons[i].family]):=mo cons hlt
  rw[List.drop_eq_getElem_cons hlt,ga,← List.take_succ_eq_append_getElem hlt] at hok
  have ht:=List.take_succ_eq_append_getElem hlt
  have hset:=ya (cons.take i) cons[i]
  have hcell:cons[i].cells=[.str cons[i].name,.int .i64 cons[i].arity,.int .i64 cons[i].tag,.int .i64 cons[i].family]:=rfl
  rw[hcell] at hset
  have hoc:zP (cons.take i) cons[i]=zP (cons.take i) cons[i]:=rfl
  conv at hoc=>rhs;unfold zP
  simp only[OZ] at hoc
  have hnw:=JQ (l:=cons.take i) (c:=cons[i])
  have hcz:=jQ (cons.take i) cons[i].name
  have hch:=EL (cons.take i) cons[i].name
  generalize hok1:zP (cons.take i) cons[i]=o1 at*
  cases o1
  ·have X:=iY X e1 hcz hch
   (refine run ?_;with_reducible repeat' first|exact trivial|(apply aJ.mk<;>intro hb)|apply bN.mk)
   ·rw[Bool.false_and] at hok
    refine aZ (n0:=n0) hR hC' (hcls (cons.take i)) (.same _ rfl) ⟨_,⟨rfl,?_⟩,?_⟩
    ·rw[← hok];rfl
    ·rw[← hok];intro h;cases h
   ·rw[hb] at hoc;cases hoc
  ·have X:=j8 X e1 hcz hch (hset (hnw rfl))
   (refine run ?_;with_reducible repeat' first|exact trivial|(apply aJ.mk<;>intro hb)|apply bN.mk)
   ·rw[hb] at hoc;cases hoc
   ·rw[← ht]
    refine hK _ _ (i+1) (by omega) ⟨by omega,by rw[← hok,Bool.true_and]⟩ ?_
    exact bI (n0:=n0) [] hG hB hC' (hcls _)
 obtain rfl:i=cons.length:=by omega
 rw[List.drop_length,List.take_length] at hok
 rw[List.take_length]
 clear hK
 have X:=And.intro X (Int.lt_irrefl (cons.length:Int))
 (refine run ?_)
 exact aZ (n0:=n0) hR hC' (hcls cons) (.same _ rfl) ⟨_,⟨rfl,by rw[← hok];rfl⟩,fun _=>rfl⟩
theorem IJ (G:Gl) (hG:ah G) (H:List av) (lb mb pb:Nat) (cs:List Cn) (hl:j7 H lb mb cs) (hp:H[pb]? =some (.cells 0 1 [.ptr lb 0 0 0])) (a:Al):
 aq Tryz.prog G 85 [a.sv,.ptr pb 0 0 0] H (fun r H'=>H'=H∧r= .bool (decide (a.kind=1)&&!ew cs a.name a.names.length)):=by
 obtain⟨kd,nm,nn,names,body⟩:=a
 obtain⟨k2,s2,n2,o2,l2,ss2,bs2,as2⟩:=body
 rw[show(Al.mk kd nm nn names (.mk k2 s2 n2 o2 l2 ss2 bs2 as2)).sv= .agg [.int .i64 kd,.str nm,.int .i64 nn,.list 1 (names.map .str),.int .i64 k2,.str s2,.int .i64 n2,.int .i64 o2,.list 1 (l2.map .str),.list 8 (ag ss2),.list 9 (ad bs2),.list 12 (af as2)] from rfl]
 have c1:=fun L=>IZ G hG (H++L) lb mb cs (hl.app L) nm names.length
 have hpx:=fun L=>(show(H++L)[pb]? =some (.cells 0 1 [.ptr lb 0 0 0]) by rw[dx (List.getElem?_eq_some_iff.1 hp).1];exact hp)
 refine bP [] Tryz.func85 Tryz.ntmps85 fun C R' hR hC hcl hB hC' X=>?_
 have X:=And.intro X hpx
 (refine run ?_;with_reducible repeat' first|exact trivial|(apply aJ.mk<;>intro hb)|apply bN.mk)
 all_goals (refine aZ (n0:=H.length) hR hC' hcl (.same _ rfl) ⟨rfl,?_⟩;simp_all [aC,Al.kind,Al.n,Al.name,Al.names])
theorem LI (G:Gl) (hG:ah G) (H:List av) (lb mb:Nat) (cs:List Cn) (hl:j7 H lb mb cs) (e:Ex) (hw:e.wt<549755813888):
 aq Tryz.prog G 45 [.ptr lb 0 0 0,e.sv] H (fun r H'=>H'=H∧r= .bool (l9 cs e)):=by
 obtain⟨kd,nm,nn,op,names,ae,binds,alts⟩:=e
 have hle:=Ex.dn kd nm nn op names ae binds alts
 have c1:=fun L=>IZ G hG (H++L) lb mb cs (hl.app L) nm ae.length
 have c2:=fun H=>AJ G op H
 have c3:=Az G hG (.fn (.func 85) [] [.ptr H.length 0 0 0]) (fun a=>decide (a.kind=1)&&!ew cs a.name a.names.length) alts (H++[.cells 0 1 [.ptr lb 0 0 0],.cells 0 8 [.agg [.int .i64 kd,.str nm,.int .i64 nn,.int .i64 op,.list 1 (names.map .str),.list 8 (ag ae),.list 9 (ad binds),.list 12 (af alts)]]]) (by omega) (by simp[SV.under,SV.aj])
  (fun a ha=>aY.of (first:=[]) (args:=[a.sv]) (cap:=[.ptr H.length 0 0 0]) (IJ G hG _ lb mb H.length cs (hl.app _) (by simp) a))
 refine bP [] Tryz.func45 Tryz.ntmps45 fun C R' hR hC hcl hB hC' X=>?_
 (refine run ?_;with_reducible repeat' first|exact trivial|(apply aJ.mk<;>intro hb)|apply bN.mk)
 all_goals (refine aZ (n0:=H.length) hR hC' hcl (.same _ rfl) ⟨rfl,?_⟩;simp_all [aC,l9,Ex.kind,Ex.names,Ex.ae,Ex.binds,Ex.name,Ex.op,Ex.alts]<;>exact decide_eq_decide.2 (by omega))
theorem Jy {l:List aD} {s t:aD}:s∈qM l t↔s∈l∨s=t:=by
 unfold qM
 split
 ·rename_i h
  constructor
  ·exact .inl
  ·rintro (h2|rfl)
   ·exact h2
   ·exact h
 ·simp
theorem u9 {s:aD}:∀ {l:List aD} {a:List aD},s∈l.foldl qM a↔s∈a∨s∈l
 |[],a=>by simp
 |t::r,a=>by
  rw[List.foldl_cons,u9 (l:=r),Jy,List.mem_cons]
  constructor
  ·rintro ((h|h)|h)
   ·exact .inl h
   ·exact .inr (.inl h)
   ·exact .inr (.inr h)
  ·rintro (h|h|h)
   ·exact .inl (.inl h)
   ·exact .inl (.inr h)
   ·exact .inr h
theorem pd:∀ (l:List aD) (s:aD),(bO (kB l) (.str s)).getD (.bool false)= .bool (decide (s∈l))
 |[],s=>by simp[kB,bO]
 |x::r,s=>by
  have ih:=pd r s
  have e:bO (kB (x::r)) (.str s)=if SV.ey (.str s) (.str x)=true then some (.bool true) else bO (kB r) (.str s):=rfl
  rw[e]
  by_cases h:s=x
  ·subst h
   simp[SV.ey]
  ·rw[if_neg (by simpa [SV.ey] using h),ih]
   simp[h]
def vG (l:List Al):List aD:=(l.map Al.name).foldl qM []
theorem Gh (l:List Al) (s:aD):(bO (kB (vG l)) (.str s)).getD (.bool false)= .bool (decide (s∈l.map Al.name)):=by
 rw[pd]
 congr 1
 rw[decide_eq_decide,vG,u9]
 simp
theorem G4 (l:List Al) (a:Al):cN (kB (vG l)) (.str a.name) (.bool true)=kB (vG (l++[a])):=by
 rw[oh,vG,vG,List.map_append,List.foldl_append];rfl
def D4 (l:List Int) (n:Int):List Int:=if n∈l then l else l++[n]
def EN (l:List Int):List (SV×SV):=l.map fun n=>(.int .i64 n,.bool true)
theorem yc:∀ (l:List Int) (n:Int),cN (EN l) (.int .i64 n) (.bool true)=EN (D4 l n)
 |[],n=>rfl
 |k::r,n=>by
  simp only[EN,List.map_cons,cN,SV.ey,D4]
  by_cases h:n=k
  ·simp[h]
  ·simp only[beq_eq_false_iff_ne.2 h,if_false,Bool.false_eq_true]
   rw[show cN (List.map _ r) (.int .i64 n) (.bool true)=_ from yc r n]
   simp only[EN,D4,List.mem_cons,h,false_or]
   split<;>rfl
theorem Jx {l:List Int} {s t:Int}:s∈D4 l t↔s∈l∨s=t:=by
 unfold D4
 split
 ·rename_i h
  constructor
  ·exact .inl
  ·rintro (h2|rfl)
   ·exact h2
   ·exact h
 ·simp
theorem xQ {s:Int}:∀ {l:List Int} {a:List Int},s∈l.foldl D4 a↔s∈a∨s∈l
 |[],a=>by simp
 |t::r,a=>by
  rw[List.foldl_cons,xQ (l:=r),Jx,List.mem_cons]
  constructor
  ·rintro ((h|h)|h)
   ·exact .inl h
   ·exact .inr (.inl h)
   ·exact .inr (.inr h)
  ·rintro (h|h|h)
   ·exact .inl (.inl h)
   ·exact .inl (.inr h)
   ·exact .inr h
theorem uz:∀ (l:List Int) (n:Int),(bO (EN l) (.int .i64 n)).getD (.bool false)= .bool (decide (n∈l))
 |[],s=>by simp[EN,bO]
 |x::r,s=>by
  have ih:=uz r s
  have e:bO (EN (x::r)) (.int .i64 s)=if SV.ey (.int .i64 s) (.int .i64 x)=true then some (.bool true) else bO (EN r) (.int .i64 s):=rfl
  rw[e]
  by_cases h:s=x
  ·subst h
   simp[SV.ey]
  ·rw[if_neg (by simpa [SV.ey] using h),ih]
   simp[h]
def vi (l:List Al):List Int:=(l.map Al.n).foldl D4 []
theorem Gg (l:List Al) (s:Int):(bO (EN (vi l)) (.int .i64 s)).getD (.bool false)= .bool (decide (s∈l.map Al.n)):=by
 rw[uz]
 congr 1
 rw[decide_eq_decide,vi,xQ]
 simp
theorem GK (l:List Al) (a:Al):cN (EN (vi l)) (.int .i64 a.n) (.bool true)=EN (vi (l++[a])):=by
 rw[yc,vi,vi,List.map_append,List.foldl_append];rfl
theorem wZ (n:Nat):∀ l:List Int,dq n (EN l)=true
 |[]=>rfl
 |p::l=>by simp only[EN,List.map_cons,dq,SV.under,Bool.and_self,Bool.true_and];exact wZ n l
theorem yC (l:List Al) (n:Nat):(af l).take n=af (l.take n):=by simp[bh,List.map_take]
theorem DY (cs:List Cn) (k0:Int) (s0:aD) (R:List Al) {i:Nat} (h:i<R.length):jv cs k0 s0 (R.take i) (R.drop i)=(vj cs (R.take i) k0 s0 R[i]||jv cs k0 s0 (R.take (i+1)) (R.drop (i+1))):=by
 rw[List.drop_eq_getElem_cons h,jv,← List.take_succ_eq_append_getElem h]
theorem De (G:Gl) (hG:ah G) (H:List av) (lb mb:Nat) (cs:List Cn) (hl:j7 H lb mb cs) (e:Ex) (hw:e.wt<549755813888):
 aq Tryz.prog G 46 [.ptr lb 0 0 0,e.sv] H (fun r H'=>H'=H∧r= .bool (sP cs e)):=by
 obtain⟨kd,nm,nn,op,names,ae,binds,alts⟩:=e
 have hle:=Ex.dn kd nm nn op names ae binds alts
 by_cases hk:kd=6
 rotate_left
 ·have es:sP cs (.mk kd nm nn op names ae binds alts)=true:=if_pos hk
  refine bP [] Tryz.func46 Tryz.ntmps46 fun C R' hR hC hcl hB hC' X=>?_
  (refine iu ?_)
  refine kN rfl hk ?_
  (refine run ?_)
  exact aZ (n0:=H.length) hR hC' hcl (.same _ rfl) ⟨rfl,by rw[es];rfl⟩
 have es:sP cs (.mk kd nm nn op names ae binds alts)=(!jv cs (Mb (fP alts)) (Nj (fP alts)) [] (fP alts)&&decide (0<alts.length)):=if_neg (fun h=>h hk)
 rw[es]
 have l1:=(List.getElem?_eq_some_iff.1 hl.l).1
 have l2:=(List.getElem?_eq_some_iff.1 hl.m).1
 rcases Nat.eq_zero_or_pos alts.length with h0|hpos
 ·obtain rfl:=List.length_eq_zero_iff.1 h0
  refine bP [] Tryz.func46 Tryz.ntmps46 fun C R' hR hC hcl hB hC' X=>?_
  (refine iu ?_)
  refine eh rfl (fun h=>h hk) ?_
  have X:=And.intro aO (Int.lt_irrefl 0)
  (refine run ?_)
  refine aA (fun _:Unit=>[(3,.ptr H.length 0 0 0),(36,.int .i64 0),(37,.int .i64 0)]) (fun _=>H++[.cells 0 8 [.agg [.int .i64 kd,.str nm,.int .i64 nn,.int .i64 op,.list 1 (names.map .str),.list 8 (ag ae),.list 9 (ad binds),.list 12 (af [])]]]) (fun _=>0) (fun _=>True) () trivial ?_ ?_
  ·exact bI (n0:=H.length) [(H.length,0)] hG hB hC' hcl
  rintro K _ _ hK
  (refine run ?_)
  exact aZ (n0:=H.length) hR hC' hcl (.same _ rfl) ⟨rfl,rfl⟩
 have hnn:((alts.length:Int) - 1).toNat=alts.length - 1:=by omega
 have hlt1:alts.length - 1<alts.length:=by omega
 have hr:fP alts=if alts[alts.length - 1].kind=3 then alts.take (alts.length - 1) else alts:=by
  rw[fP,if_neg (by omega)]
  have:alts.getLast?=some alts[alts.length - 1]:=by rw[List.getLast?_eq_getElem?,List.getElem?_eq_getElem hlt1]
  rw[this]
  rfl
 have hal:alts[alts.length - 1]? =some alts[alts.length - 1]:=List.getElem?_eq_getElem hlt1
 have hpos2:(0:Int)<(alts.length:Int):=by omega
 refine bP [] Tryz.func46 Tryz.ntmps46 fun C R' hR hC hcl hB hC' X=>?_
 (refine iu ?_)
 refine eh rfl (fun h=>h hk) ?_
 have X:=j8 aO hnn hal (show alts.length - 1 - 0=alts.length - 1 from rfl) (yC alts (alts.length - 1))
 (refine iu ?_)
 refine fA (fun _:Unit=>[(0,.ptr lb 0 0 0),(3,.ptr H.length 0 0 0),(5,.list 12 (af (fP alts)))]) (fun _=>H++[.cells 0 8 [.agg [.int .i64 kd,.str nm,.int .i64 nn,.int .i64 op,.list 1 (names.map .str),.list 8 (ag ae),.list 9 (ad binds),.list 12 (af alts)]]]) (fun _=>True) (fun K hK=>?_) (fun _ _=>?_)
 ·(refine run ?_;with_reducible repeat' first|exact trivial|(apply aJ.mk<;>intro hb)|apply bN.mk)
  ·refine hK _ _ () trivial ?_
   rw[hr,if_pos (by first|exact hb|simp_all)]
   exact bI (n0:=H.length) [(H.length,0)] hG hB hC' hcl
  ·refine hK _ _ () trivial ?_
   rw[hr,if_neg (by first|exact hb|simp_all)]
   exact bI (n0:=H.length) [(H.length,0)] hG hB hC' hcl
 have gB:=wZ
 have hrl:(fP alts).length≤alts.length:=by
  unfold fP
  split
  ·exact Nat.le_refl _
  ·split
   ·rw[List.length_take];omega
   ·exact Nat.le_refl _
 generalize hRR:fP alts=R at*
 have X:=And.intro aO hl.X
 (refine run ?_)
 refine aA (fun i:Nat=>[(0,.ptr lb 0 0 0),(3,.ptr H.length 0 0 0),(5,.list 12 (af R)),(7,.map (H.length+1)),(8,.map (H.length+2)),(35,.list 12 (af R)),(36,.int .i64 R.length),(37,.int .i64 i)])
  (fun i=>H++[.cells 0 8 [.agg [.int .i64 kd,.str nm,.int .i64 nn,.int .i64 op,.list 1 (names.map .str),.list 8 (ag ae),.list 9 (ad binds),.list 12 (af alts)]],.map none (kB (vG (R.take i))),.map (some .i64) (EN (vi (R.take i)))]) (fun i=>R.length - i) (fun i=>i≤R.length∧jv cs (Mb R) (Nj R) (R.take i) (R.drop i)=jv cs (Mb R) (Nj R) [] R) 0 ⟨Nat.zero_le _,rfl⟩ ?_ ?_
 ·exact bI (n0:=H.length) [(H.length,0),(H.length+1,0),(H.length+2,0)] hG hB hC' hcl
 rintro K i ⟨hi,ho⟩ hK
 rcases Nat.lt_or_ge i R.length with hlt|hge
 ·rw[DY cs _ _ R hlt] at ho
  have hs1:=Gh (R.take i) R[i].name
  have hs2:=Gg (R.take i) R[i].n
  have hs3:=G4 (R.take i) R[i]
  have hs4:=GK (R.take i) R[i]
  have hz1:=jQ cs R[i].name
  have hz2:=jQ cs R[0].name
  have hR0:R[0]? =some R[0]:=List.getElem?_eq_getElem (by omega)
  have hRi:R[i]? =some R[i]:=List.getElem?_eq_getElem hlt
  have hk0:Mb R=R[0].kind:=by rw[Mb,List.head?_eq_getElem?,hR0];rfl
  have hn0:Nj R=R[0].name:=by rw[Nj,List.head?_eq_getElem?,hR0];rfl
  have ht:=List.take_succ_eq_append_getElem hlt
  rw[← ht] at hs3 hs4
  have hoc:vj cs (R.take i) (Mb R) (Nj R) R[i]=vj cs (R.take i) (Mb R) (Nj R) R[i]:=rfl
  conv at hoc=>rhs;unfold vj
  rw[hk0,hn0] at hoc ho
  generalize hoo:vj cs (R.take i) R[0].kind R[0].name R[i]=oo at*
  generalize R[0]=a0 at*
  generalize R[i]=ai at*
  have X:=wh aO hl.X hs1 hs2 hs3 hs4 hz1 hz2 hR0 hRi
  (refine run ?_;with_reducible repeat' first|exact trivial|(apply aJ.mk<;>intro hb)|apply bN.mk)
  ·simp only[decide_not] at hb
   have e:oo=true:=hoc.trans hb
   subst e
   rw[Bool.true_or,← hk0,← hn0] at ho
   rw[← ho] at hR
   exact aZ (n0:=H.length) hR hC' hcl (.same _ rfl) ⟨rfl,rfl⟩
  ·simp only[decide_not] at hb
   have e:oo=false:=hoc.trans hb
   subst e
   rw[Bool.false_or] at ho
   rw[← hk0,← hn0] at ho
   refine hK _ _ (i+1) (by omega) ⟨by omega,ho⟩ ?_
   exact bI (n0:=H.length) [(H.length,0),(H.length+1,0),(H.length+2,0)] hG hB hC' hcl
 obtain rfl:i=R.length:=by omega
 rw[List.drop_length,List.take_length] at ho
 rw[← ho] at hR
 clear hK
 have X:=And.intro aO (Int.lt_irrefl (R.length:Int))
 (refine run ?_)
 exact aZ (n0:=H.length) hR hC' hcl (.same _ rfl) ⟨rfl,by simp[aC,jv]⟩
theorem dG (l:List Bd):(aU l).length≤aV l:=
 mG (f:=fun b:Bd=>b.name::iF b.e) (w:=Bd.wt) rfl (fun _ _=>rfl) fun b _=>by
  have:=dH b.e.wt b.e
  have:=b.dw
  simp only[List.length_cons,iF];omega
theorem tO {l:List Bd} {b:Bd} (h:b∈l):b.e.wt<aV l:=by
 induction l with
 |nil=>cases h
 |cons x r ih=>
  simp only[aV]
  have:=x.dw
  rcases List.mem_cons.1 h with rfl|h
  ·omega
  ·have:=ih h;omega
theorem sc (G:Gl) (hG:ah G) (cons:List Cn) (binds:List Bd) (H:List av) (hw:aV binds<549755813888):
 aq Tryz.prog G 34 [.agg [.list 4 (ay cons),.list 9 (ad binds)]] H (fun r H'=>H'=H++[.cells 0 1 ((aU binds).map .str)]∧r= .sl H.length 0 0 (aU binds).length):=by
 have hle:=cM binds
 obtain⟨L2,b1,b2,b3,b4⟩:=il (fun b:Bd=>b.name::iF b.e) [] binds
 have e0:aU binds=L2 binds.length:=by rw[b4,List.nil_append];rfl
 have hln:=dG binds
 rw[e0] at hln ⊢
 rw[← b4] at b3
 have cC:=fun n=>aX n cons
 refine bP [3] Tryz.func34 Tryz.ntmps34 fun C R' hR hC hcl hB hC' X=>?_
 (refine run ?_)
 refine aA (fun i:Nat=>[(3,.sl (H.length+1) 0 0 (L2 i).length),(7,.list 9 (ad binds)),(8,.int .i64 binds.length),(9,.int .i64 i)])
  (fun i=>H++[.cells 0 2 [.agg [.list 4 (ay cons),.list 9 (ad binds)]],.cells 0 1 ((L2 i).map .str)]) (fun i=>binds.length - i) (fun i=>i≤binds.length) 0 (Nat.zero_le _) ?_ ?_
 ·simp only[b1,List.length_nil,List.map_nil]
  exact bI (n0:=H.length) [(H.length,0),(H.length+1,0)] hG hB hC' hcl
 rintro K i hi hK
 rcases Nat.lt_or_ge i binds.length with hlt|hge
 ·have hpb:=tO (List.getElem_mem hlt)
  have c1:=fun H=>tP G hG binds[i].e.wt binds[i].e H (Nat.le_refl _) (by omega)
  have e1:=b2 i hlt
  have e2:=b3 (i+1)
  have e3:=b3 i
  have e4:=dH binds[i].e.wt binds[i].e
  rw[e1,List.length_append] at e2
  simp only[List.length_cons,iF] at e2 e1
  generalize cF binds[i].e.wt binds[i].e=l at*
  generalize L2 i=l1 at*
  have X:=And.intro aO (show(l1.map SV.str).length=l1.length∧(l.map SV.str).length=l.length from⟨List.length_map ..,List.length_map ..⟩)
  (refine run ?_;with_reducible repeat' first|exact trivial|(apply aJ.mk<;>intro hb)|apply bN.mk)
  refine hK _ _ (i+1) (by omega) (by omega) ?_
  rw[e1,List.map_append,List.map_cons,show(l1++binds[i].name::l).length=l1.length+(1+l.length) from by simp;omega]
  exact bI (n0:=H.length) [(H.length,0),(H.length+1,0)] hG hB hC' hcl
 obtain rfl:i=binds.length:=by omega
 clear hK
 (refine run ?_;with_reducible repeat' first|exact trivial|(apply aJ.mk<;>intro hb)|apply bN.mk)
 exact gD [(H.length+1,0)] (.sl H.length 0 0 (L2 binds.length).length) [.cells 0 1 ((L2 binds.length).map .str)] hR hC' hcl ⟨rfl,rfl⟩
theorem Bd.Km (b:Bd):b.sv= .agg (.str b.name::b.e.cells):=congrArg SV.agg b.bf
theorem Gf (G:Gl) (hG:ah G) (fid:FuncId) (fi ca:List SV) (p:Ex→Bool) (m:Nat) (hm:m<549755813888) (b:Bd) (H:List av) (ib:Nat) (hb0:b.e.wt≤m) (hib:H[ib]? =some (.cells 0 1 [.fn (.func fid) fi ca])) (hfu:(SV.fn (.func fid) fi ca).under H.length=true) (hy:wg G fid fi ca p H m):
 aq Tryz.prog G 32 [b.sv,.ptr ib 0 0 0] H (fun r H'=>H'=H∧r= .bool (!eM p b.e)):=by
 have hlt2:ib<H.length:=(List.getElem?_eq_some_iff.1 hib).1
 have c1:=fun L=>Ey G hG fid fi ca p m hm b.e (H++L) hb0 ((SV.cz (by simp)).1 _ hfu) (hy.app L)
 rw[b.Km]
 refine bP [] Tryz.func32 Tryz.ntmps32 fun C R' hR hC hcl hB hC' X=>?_
 have X:=And.intro X (fun L=>(show(H++L)[ib]? =some (.cells 0 1 [.fn (.func fid) fi ca]) by rw[dx hlt2];exact hib))
 (refine run ?_)
 exact aZ (n0:=H.length) hR hC' hcl (.same _ rfl) ⟨rfl,rfl⟩
theorem uj (G:Gl) (hG:ah G) (fid:FuncId) (fi ca:List SV) (p:Ex→Bool) (cons:List Cn) (binds:List Bd) (hw:aV binds<549755813888) (H:List av) (pb:Nat) (hpb:H[pb]? =some (.cells 0 2 [.agg [.list 4 (ay cons),.list 9 (ad binds)]])) (hfu:(SV.fn (.func fid) fi ca).under H.length=true) (hy:wg G fid fi ca p H (aV binds)):
 aq Tryz.prog G 30 [.fn (.func fid) fi ca,.ptr pb 0 0 0] H (fun r H'=>H'=H∧r= .bool (binds.all fun b=>eM p b.e)):=by
 have hlt2:pb<H.length:=(List.getElem?_eq_some_iff.1 hpb).1
 have hle:=cM binds
 have c1:=AB G hG (.fn (.func 32) [] [.ptr H.length 0 0 0]) (fun b=>!eM p b.e) binds (H++[.cells 0 1 [.fn (.func fid) fi ca]]) (by omega) (by simp[SV.under,SV.aj])
  (fun b hb=>aY.of (first:=[]) (args:=[b.sv]) (cap:=[.ptr H.length 0 0 0]) (Gf G hG fid fi ca p (aV binds) hw b _ H.length (Nat.le_of_lt (tO hb)) (by simp) ((SV.cz (by simp)).1 _ hfu) (hy.app _)))
 have e1:(!(binds.any fun b=>!eM p b.e))=binds.all fun b=>eM p b.e:=by rw[List.all_eq_not_any_not]
 rw[← e1]
 refine bP [] Tryz.func30 Tryz.ntmps30 fun C R' hR hC hcl hB hC' X=>?_
 have X:=And.intro X (fun L=>(show(H++L)[pb]? =some (.cells 0 2 [.agg [.list 4 (ay cons),.list 9 (ad binds)]]) by rw[dx hlt2];exact hpb))
 (refine run ?_)
 exact aZ (n0:=H.length) hR hC' hcl (.same _ rfl) ⟨rfl,rfl⟩
theorem HQ (G:Gl) (hG:ah G) (t:List (aD×Int)) (ht:∀ s,0≤da t s∧da t s≤1) (b:Bd) (hw:b.e.wt<549755813888) (H:List av) (vb tb:Nat) (hvb:H[vb]? =some (.cells 0 1 [.map tb])) (htb:H[tb]? =some (.map none (kG t))):
 aq Tryz.prog G 36 [b.sv,.ptr vb 0 0 0] H (fun r H'=>H'=H∧r= .bool (sO t b)):=by
 have l1:vb<H.length:=(List.getElem?_eq_some_iff.1 hvb).1
 have l2:tb<H.length:=(List.getElem?_eq_some_iff.1 htb).1
 rw[b.Km]
 have c1:aq Tryz.prog G 38 [.map tb] (H++[.cells 0 9 [.agg (.str b.name::b.e.cells)],.map none []]) (fun r H'=>H'=H++[.cells 0 9 [.agg (.str b.name::b.e.cells)],.map none [],.map none (kG t)]∧r= .map (H.length+2)):=
  (aq.JM (G:=G) ⟨_,Tryz.func38,by decide,rfl⟩ (fun b es clock w hb=>Tryz.maps_Clone b es clock w hb) tb (H++[.cells 0 9 [.agg (.str b.name::b.e.cells)],.map none []]) none (kG t) (by rw[dx l2];exact htb)).mono (by rintro r H' ⟨rfl,rfl⟩;simp)
 have hcall:=py G hG b.e.wt b.e (Nat.le_refl _) hw (H++[.cells 0 9 [.agg (.str b.name::b.e.cells)],.map none [],.map none (kG t)]) (H.length+2) (H.length+1) (t,[]) (by simp) (by simp[kB]) (by omega) (fun s=>by have:=ht s;simp only;omega)
 refine bP [] Tryz.func36 Tryz.ntmps36 fun C R' hR hC hcl hB hC' X=>?_
 have X:=And.intro X (fun L=>(show(H++L)[vb]? =some (.cells 0 1 [.map tb]) by rw[dx l1];exact hvb))
 (refine run ?_)
 refine nB hcall ?_
 rintro r H' rfl
 simp only[UH,bW,List.set_cons_succ,List.set_cons_zero]
 have hul:=qW b.e.wt b.e (t,[])
 have ebn:sO t b=decide ((eP b.e.wt b.e (t,[])).2.length=0):=rfl
 generalize hst:eP b.e.wt b.e (t,[])=st at*
 have hul2:st.2.length≤9223372036854775807:=by simp only[List.length_nil] at hul;omega
 have e3:(kB st.2).length=st.2.length:=by simp[kB]
 have X:=And.intro X e3
 (refine run ?_)
 refine aZ (n0:=H.length) hR hC' hcl (.same _ rfl) ⟨rfl,?_⟩
 rw[ebn]
 exact congrArg SV.bool (decide_eq_decide.2 (by omega))
theorem F3 (G:Gl) (hG:ah G) (t:List (aD×Int)) (ht:∀ s,0≤da t s∧da t s≤1) (b:Bd) (hw:b.e.wt<549755813888) (H:List av) (fb vb tb:Nat) (hfb:H[fb]? =some (.cells 0 1 [.fn (.func 36) [] [.ptr vb 0 0 0]])) (hvb:H[vb]? =some (.cells 0 1 [.map tb])) (htb:H[tb]? =some (.map none (kG t))):
 aq Tryz.prog G 44 [b.sv,.ptr fb 0 0 0] H (fun r H'=>H'=H∧r= .bool (!sO t b)):=by
 have l0:fb<H.length:=(List.getElem?_eq_some_iff.1 hfb).1
 have l1:vb<H.length:=(List.getElem?_eq_some_iff.1 hvb).1
 have l2:tb<H.length:=(List.getElem?_eq_some_iff.1 htb).1
 have hb:=HQ G hG t ht b hw (H++[.cells 0 9 [.agg (.str b.name::b.e.cells)]]) vb tb (by rw[dx l1];exact hvb) (by rw[dx l2];exact htb)
 rw[b.Km] at*
 have v1:=aY.of (first:=[]) (args:=[.agg (.str b.name::b.e.cells)]) (cap:=[.ptr vb 0 0 0]) hb
 refine bP [] Tryz.func44 Tryz.ntmps44 fun C R' hR hC hcl hB hC' X=>?_
 have X:=And.intro X (fun L=>(show(H++L)[fb]? =some (.cells 0 1 [.fn (.func 36) [] [.ptr vb 0 0 0]]) by rw[dx l0];exact hfb))
 (refine run ?_)
 exact aZ (n0:=H.length) hR hC' hcl (.same _ rfl) ⟨rfl,rfl⟩
theorem Je (G:Gl) (hG:ah G) (H:List av) (lb mb vb:Nat) (cs:List Cn) (hl:j7 H lb mb cs) (hvb:H[vb]? =some (.cells 0 1 [.ptr lb 0 0 0])):
 aq Tryz.prog G 39 [.ptr vb 0 0 0] H (fun r H'=>H'=H∧r= .bool (mV cs)):=by
 have l0:vb<H.length:=(List.getElem?_eq_some_iff.1 hvb).1
 have l1:=(List.getElem?_eq_some_iff.1 hl.l).1
 have l2:=(List.getElem?_eq_some_iff.1 hl.m).1
 refine bP [] Tryz.func39 Tryz.ntmps39 fun C R' hR hC hcl hB hC' X=>?_
 have hvx:=fun L=>(show(H++L)[vb]? =some (.cells 0 1 [.ptr lb 0 0 0]) by rw[dx l0];exact hvb)
 (refine run ?_)
 refine aA (fun i:Nat=>[(0,.ptr vb 0 0 0),(8,.agg [.str [80,114,105,109,46,70,97,108,115,101],.int .i64 0,.int .i64 0,.int .i64 2,.str [80,114,105,109,46,84,114,117,101],.int .i64 0,.int .i64 1,.int .i64 2,.str [80,114,105,109,46,40,41],.int .i64 0,.int .i64 0,.int .i64 1,.str [80,114,105,109,46,66,111,120],.int .i64 1,.int .i64 0,.int .i64 1]),(9,.int .i64 i)]) (fun _=>H++[]) (fun i=>4 - i) (fun i=>i≤4∧(kh.take i).all (fun c=>decide (fK cs c.name=c))=true) 0 ⟨by omega,rfl⟩ ?_ ?_
 ·simp only[List.append_nil]
  exact Wk.sub (by simp[aW,look])
 rintro K i ⟨hi,ho⟩ hK
 have h5:i=0∨i=1∨i=2∨i=3∨i=4:=by omega
 rcases h5 with rfl|rfl|rfl|rfl|rfl
 ·have hz:=jQ cs [80,114,105,109,46,70,97,108,115,101]
  by_cases hq:fK cs [80,114,105,109,46,70,97,108,115,101]=(⟨[80,114,105,109,46,70,97,108,115,101],0,0,2⟩:Cn)
  ·rw[hq] at hz
   have X:=iY X hl.X hvx hz
   (refine run ?_)
   refine hK _ _ 1 (by omega) ⟨by omega,?_⟩ ?_
   ·simp only[kh,List.take_succ_cons,List.take_zero,List.all_cons,List.all_nil,Bool.and_true,Bool.and_eq_true,decide_eq_true_eq] at ho ⊢
    simp_all
   ·exact bI (n0:=H.length) [] hG hB hC' hcl
  ·have hf:mV cs=false:=by rw[mV,List.all_eq_false];exact⟨(⟨[80,114,105,109,46,70,97,108,115,101],0,0,2⟩:Cn),by simp[kh],by simpa using hq⟩
   rw[hf] at hR
   generalize fK cs [80,114,105,109,46,70,97,108,115,101]=q at*
   obtain⟨n1,n2,n3,n4⟩:=q
   have X:=iY X hl.X hvx hz
   (refine run ?_;with_reducible repeat' first|exact trivial|(apply aJ.mk<;>intro hb)|apply bN.mk)
   ·exact aZ (n0:=H.length) hR hC' hcl (.same _ rfl) ⟨rfl,rfl⟩
   ·exfalso;apply hq;simp_all
 ·have hz:=jQ cs [80,114,105,109,46,84,114,117,101]
  by_cases hq:fK cs [80,114,105,109,46,84,114,117,101]=(⟨[80,114,105,109,46,84,114,117,101],0,1,2⟩:Cn)
  ·rw[hq] at hz
   have X:=iY X hl.X hvx hz
   (refine run ?_)
   refine hK _ _ 2 (by omega) ⟨by omega,?_⟩ ?_
   ·simp only[kh,List.take_succ_cons,List.take_zero,List.all_cons,List.all_nil,Bool.and_true,Bool.and_eq_true,decide_eq_true_eq] at ho ⊢
    simp_all
   ·exact bI (n0:=H.length) [] hG hB hC' hcl
  ·have hf:mV cs=false:=by rw[mV,List.all_eq_false];exact⟨(⟨[80,114,105,109,46,84,114,117,101],0,1,2⟩:Cn),by simp[kh],by simpa using hq⟩
   rw[hf] at hR
   generalize fK cs [80,114,105,109,46,84,114,117,101]=q at*
   obtain⟨n1,n2,n3,n4⟩:=q
   have X:=iY X hl.X hvx hz
   (refine run ?_;with_reducible repeat' first|exact trivial|(apply aJ.mk<;>intro hb)|apply bN.mk)
   ·exact aZ (n0:=H.length) hR hC' hcl (.same _ rfl) ⟨rfl,rfl⟩
   ·exfalso;apply hq;simp_all
 ·have hz:=jQ cs [80,114,105,109,46,40,41]
  by_cases hq:fK cs [80,114,105,109,46,40,41]=(⟨[80,114,105,109,46,40,41],0,0,1⟩:Cn)
  ·rw[hq] at hz
   have X:=iY X hl.X hvx hz
   (refine run ?_)
   refine hK _ _ 3 (by omega) ⟨by omega,?_⟩ ?_
   ·simp only[kh,List.take_succ_cons,List.take_zero,List.all_cons,List.all_nil,Bool.and_true,Bool.and_eq_true,decide_eq_true_eq] at ho ⊢
    simp_all
   ·exact bI (n0:=H.length) [] hG hB hC' hcl
  ·have hf:mV cs=false:=by rw[mV,List.all_eq_false];exact⟨(⟨[80,114,105,109,46,40,41],0,0,1⟩:Cn),by simp[kh],by simpa using hq⟩
   rw[hf] at hR
   generalize fK cs [80,114,105,109,46,40,41]=q at*
   obtain⟨n1,n2,n3,n4⟩:=q
   have X:=iY X hl.X hvx hz
   (refine run ?_;with_reducible repeat' first|exact trivial|(apply aJ.mk<;>intro hb)|apply bN.mk)
   ·exact aZ (n0:=H.length) hR hC' hcl (.same _ rfl) ⟨rfl,rfl⟩
   ·exfalso;apply hq;simp_all
 ·have hz:=jQ cs [80,114,105,109,46,66,111,120]
  by_cases hq:fK cs [80,114,105,109,46,66,111,120]=(⟨[80,114,105,109,46,66,111,120],1,0,1⟩:Cn)
  ·rw[hq] at hz
   have X:=iY X hl.X hvx hz
   (refine run ?_)
   refine hK _ _ 4 (by omega) ⟨by omega,?_⟩ ?_
   ·simp only[kh,List.take_succ_cons,List.take_zero,List.all_cons,List.all_nil,Bool.and_true,Bool.and_eq_true,decide_eq_true_eq] at ho ⊢
    simp_all
   ·exact bI (n0:=H.length) [] hG hB hC' hcl
  ·have hf:mV cs=false:=by rw[mV,List.all_eq_false];exact⟨(⟨[80,114,105,109,46,66,111,120],1,0,1⟩:Cn),by simp[kh],by simpa using hq⟩
   rw[hf] at hR
   generalize fK cs [80,114,105,109,46,66,111,120]=q at*
   obtain⟨n1,n2,n3,n4⟩:=q
   have X:=iY X hl.X hvx hz
   (refine run ?_;with_reducible repeat' first|exact trivial|(apply aJ.mk<;>intro hb)|apply bN.mk)
   ·exact aZ (n0:=H.length) hR hC' hcl (.same _ rfl) ⟨rfl,rfl⟩
   ·exfalso;apply hq;simp_all
 ·have ho:mV cs=true:=ho
  rw[ho] at hR
  (refine run ?_)
  exact aZ (n0:=H.length) hR hC' hcl (.same _ rfl) ⟨rfl,rfl⟩
theorem Bc (l:List aD):∀ m,(dz l m).length≤m
 |0=>Nat.le_refl _
 |m+1=>by
  rw[dz]
  have:=Bc l m
  split
  ·omega
  ·rw[List.length_append,List.length_singleton];omega
theorem NQ {H:List av} {id g sz:Nat} {vs0:List SV} (h:H[id]? =some (.cells g sz vs0)):
 ∃ Q:List SV→List av,Q vs0=H∧(∀ vs,Q vs=H.set id (.cells g sz vs))∧(∀ vs,(Q vs).length=H.length)∧
  ((∀ vs,(Q vs)[id]? =some (.cells g sz vs))∧(∀ vs L,(Q vs++L)[id]? =some (.cells g sz vs))∧(∀ vs ws,(Q vs).set id (.cells g sz ws)=Q ws)∧(∀ vs ws L,(Q vs++L).set id (.cells g sz ws)=Q ws++L))∧(closed H→∀ vs,SV.aj H.length vs=true→closed (Q vs)):=by
 have hl:=(List.getElem?_eq_some_iff.1 h).1
 refine⟨fun vs=>H.set id (.cells g sz vs),dM h,fun vs=>rfl,fun vs=>by simp,⟨fun vs=>List.getElem?_set_self hl,fun vs L=>?_,fun vs ws=>List.set_set ..,fun vs ws L=>?_⟩,fun hc vs hv=>hc.set hv⟩
 ·rw[List.getElem?_append_left (by simpa using hl)];exact List.getElem?_set_self hl
 ·rw[gY (by simpa using hl),List.set_set]
theorem Dj (G:Gl) (hG:ah G) (l:List aD) (H:List av) (id g:Nat) (hid:H[id]? =some (.cells g 1 (l.map .str))) (hl:l.length<1099511627776):
 aq Tryz.prog G 42 [.sl id g 0 l.length] H (fun r H'=>∃ vs,(H'=H.set id (.cells g 1 vs)∧r= .sl id g 0 (sQ l).length)∧vs.length=l.length∧SV.aj H.length vs=true):=by
 obtain⟨Q,q0,qd,hlen,qx,qc⟩:=NQ hid
 have li:=(List.getElem?_eq_some_iff.1 hid).1
 have hlm:(l.map SV.str).length=l.length:=List.length_map ..
 simp only[← qd]
 have hu:∀ xs:List aD,SV.aj H.length (xs.map SV.str)=true:=fun xs=>SV.aT fun _ _=>rfl
 rw[← q0]
 refine bP [] Tryz.func42 Tryz.ntmps42 fun C R' hR hC hcl hB hC' X=>?_
 have hC':=hC'.trans (hlen _)
 rw[hlen] at hR
 have hcls:∀ vs,SV.aj H.length vs=true→closed (Q vs):=fun vs=>qc (q0 ▸ hcl) vs
 generalize H.length=n0 at*
 have X:=fc X qx hlm
 (refine run ?_;with_reducible repeat' first|exact trivial|(apply aJ.mk<;>intro hb)|apply bN.mk)
 ·rename_i hb
  have e:(sQ l).length=l.length:=by
   match l,hb with
   |[],_=>rfl
   |[x],_=>rfl
   |x::y::r,h=>simp only[List.length_cons] at h;omega
  exact Fin.out hR ⟨_,⟨rfl,by rw[e];rfl⟩,hlm,hu l⟩
 have hn2:2≤l.length:=by omega
 refine aA (fun m:Nat=>[(0,.sl id g 0 l.length),(2,.nil),(3,.int .i64 ((m+1:Nat):Int))]) (fun _=>Q (l.map .str)++[]) (fun m=>l.length - m) (fun m=>m+1≤l.length∧dz l (m+1)=l.take (m+1)) 0 ⟨by omega,?_⟩ ?_ ?_
 ·match l,hn2 with
  |x::r,_=>simp[dz]
 ·rw[List.append_nil]
  exact Wk.sub (by simp[aW,look])
 rintro K m ⟨hm,hd⟩ hK
 rcases Nat.lt_or_ge (m+1) l.length with hlt|hge
 ·have hm0:m<l.length:=by omega
  have e1:(l.map SV.str)[m+1]? =some (.str l[m+1]):=by simp[hlt]
  have e2:(l.map SV.str)[m]? =some (.str l[m]):=by simp[hm0]
  have hmi:((m+1:Nat):Int) - 1=(m:Int):=by omega
  have g1:l.getD (m+1) []=l[m+1]:=by rw[List.getD_eq_getElem?_getD,List.getElem?_eq_getElem hlt];rfl
  have g0:l.getD m []=l[m]:=by rw[List.getD_eq_getElem?_getD,List.getElem?_eq_getElem hm0];rfl
  have hds:dz l (m+2)=if l[m+1]=l[m] then dz l (m+1) else dz l (m+1)++[l[m+1]]:=by
   rw[dz,Nat.add_sub_cancel,g1,g0]
   by_cases h:l[m+1]=l[m]
   ·rw[if_pos ⟨by omega,h⟩,if_pos h]
   ·rw[if_neg (fun q=>h q.2),if_neg h]
  have ht:=List.take_succ_eq_append_getElem hlt
  generalize l[m+1]=x1 at*
  generalize l[m]=x0 at*
  have X:=iY X e1 e2 hmi
  (refine run ?_;with_reducible repeat' first|exact trivial|(apply aJ.mk<;>intro hb)|apply bN.mk)
  ·rw[if_pos hb] at hds
   have hJ0:(dz l (m+2)).length=m+1:=by rw[hds,hd,List.length_take];omega
   refine aA (fun a:Nat×List aD=>[(0,.sl id g 0 l.length),(3,.int .i64 ((dz l (m+1+(a.1+1))).length:Int)),(4,.sl id g (m+1) (l.length - (m+1))),(5,.int .i64 ((a.1+1:Nat):Int))]) (fun a=>Q (a.2.map .str)++[]) (fun a=>l.length - a.1)
    (fun a=>(m+1+(a.1+1)≤l.length∧a.2.length=l.length)∧(∀ i,m+1+a.1≤i→a.2[i]? =l[i]?)∧(dz l (m+1+(a.1+1))).length≤m+1+a.1) (0,l) ⟨⟨by omega,rfl⟩,fun i _=>rfl,by simp only[Nat.zero_add];rw[show dz l (m+1+1)=dz l (m+2) from rfl,hJ0];omega⟩ ?_ ?_
   ·simp only[Nat.zero_add]
    rw[show dz l (m+1+1)=dz l (m+2) from rfl,hJ0]
    exact bI (n0:=n0) [] hG hB hC' (hcls _ (hu l))
   clear hK X
   rintro K2 ⟨a,xs⟩ ⟨⟨ha1,ha2⟩,ha4,ha5⟩ hK2
   simp only at ha1 ha2 ha4 ha5
   dsimp only
   have ha2':(xs.map SV.str).length=l.length:=by rw[List.length_map,ha2]
   have hJn:=hds
   rcases Nat.lt_or_ge (m+1+(a+1)) l.length with hl2|hl2
   ·have f1:=ha4 (m+1+(a+1)) (by omega)
    have f2:=ha4 (m+1+a) (by omega)
    have hl3:m+1+a<l.length:=by omega
    rw[List.getElem?_eq_getElem hl2] at f1
    rw[List.getElem?_eq_getElem hl3] at f2
    have g1:l.getD (m+1+(a+1)) []=l[m+1+(a+1)]:=by rw[List.getD_eq_getElem?_getD,List.getElem?_eq_getElem hl2];rfl
    have g0:l.getD (m+1+a) []=l[m+1+a]:=by rw[List.getD_eq_getElem?_getD,List.getElem?_eq_getElem hl3];rfl
    have hds:dz l (m+1+(a+1+1))=if l[m+1+(a+1)]=l[m+1+a] then dz l (m+1+(a+1)) else dz l (m+1+(a+1))++[l[m+1+(a+1)]]:=by
     rw[show m+1+(a+1+1)=(m+1+(a+1))+1 from rfl,dz,show m+1+(a+1) - 1=m+1+a by omega,g1,g0]
     by_cases h:l[m+1+(a+1)]=l[m+1+a]
     ·rw[if_pos ⟨by omega,h⟩,if_pos h]
     ·rw[if_neg (fun q=>h q.2),if_neg h]
    clear hJn
    generalize l[m+1+(a+1)]=x1 at*
    generalize l[m+1+a]=x0 at*
    generalize hJ:(dz l (m+1+(a+1))).length=J at*
    have q1:((l.length - (m+1):Nat):Int)=(l.length:Int) - (m+1):=by omega
    have q2:((a+1:Nat):Int) - 1=(a:Int):=by omega
    have hJl:J<xs.length:=by omega
    obtain⟨y,hy⟩:∃ y,xs[J]? =some y:=⟨_,List.getElem?_eq_getElem hJl⟩
    have f1':(xs.map SV.str)[m+(1+(a+1))]? =some (.str x1):=by rw[← Nat.add_assoc,List.getElem?_map,f1];rfl
    have f2':(xs.map SV.str)[m+(1+a)]? =some (.str x0):=by rw[← Nat.add_assoc,List.getElem?_map,f2];rfl
    have hy':(xs.map SV.str)[J]? =some (.str y):=by rw[List.getElem?_map,hy];rfl
    have hset:(xs.map SV.str).set J (.str x1)=(xs.set J x1).map SV.str:=by rw[List.map_set]
    have X:=FW aO qx f1' f2' q2 ha2' hy' hset
    (refine run ?_;with_reducible repeat' first|exact trivial|(apply aJ.mk<;>intro hb)|apply bN.mk)
    ·rw[if_neg hb] at hds
     have hJ2:(dz l (m+1+(a+1+1))).length=J+1:=by rw[hds,List.length_append,hJ];rfl
     refine hK2 _ _ (a+1,xs.set J x1) (by simp only;omega) ⟨⟨by simp only;omega,by simpa using ha2⟩,fun i hi=>?_,by simp only[hJ2];omega⟩ ?_
     ·simp only at hi
      rw[List.getElem?_set_ne (by omega)]
      exact ha4 i (by omega)
     ·simp only[hJ2]
      exact bI (n0:=n0) [] hG hB hC' (hcls _ (hu _))
    ·rw[if_pos (by simpa using hb)] at hds
     have hJ2:(dz l (m+1+(a+1+1))).length=J:=by rw[hds,hJ]
     refine hK2 _ _ (a+1,xs) (by simp only;omega) ⟨⟨by simp only;omega,ha2⟩,fun i hi=>ha4 i (by simp only at hi;omega),by simp only[hJ2];omega⟩ ?_
     simp only[hJ2]
     exact bI (n0:=n0) [] hG hB hC' (hcls _ (hu _))
   ·have hml:m+1+(a+1)=l.length:=by omega
    have he:sQ l=dz l (m+1+(a+1)):=by rw[sQ,hml]
    have hq:((l.length - (m+1):Nat):Int)=((a+1:Nat):Int):=by omega
    have hJ3:(dz l (m+1+(a+1))).length≤l.length:=by omega
    rw[he] at hR
    generalize (dz l (m+1+(a+1))).length=J at*
    clear hK2
    have X:=j8 aO qx ha2' hq (Int.lt_irrefl ((a+1:Nat):Int))
    (refine run ?_)
    have hul:SV.aj n0 (List.take J (xs.map SV.str)++(List.replicate (l.length - J) (SV.str [])++List.drop (J+(l.length - J)) (xs.map SV.str)))=true:=by
     rw[SV.cK,SV.cK,SV.gP rfl,← List.map_take,← List.map_drop,hu,hu];rfl
    exact aZ (n0:=n0) hR hC' (hcls _ hul) (.same _ (by simpa [SV.under,aC] using li)) ⟨_,⟨rfl,rfl⟩,by simp only[List.length_append,List.length_take,List.length_replicate,List.length_drop,List.length_map];omega,hul⟩
  ·rw[if_neg hb,hd,← ht] at hds
   exact hK _ _ (m+1) (by omega) ⟨by omega,hds⟩ (bI (n0:=n0) [] hG hB hC' (hcls _ (hu l)))
 ·have hml:m+1=l.length:=by omega
  clear hK
  (refine run ?_;with_reducible repeat' first|exact trivial|(apply aJ.mk<;>intro hb)|apply bN.mk)
  have e:sQ l=l:=by rw[sQ,← hml,hd,hml,List.take_length]
  exact aZ (n0:=n0) hR hC' (hcls _ (hu l)) (.same _ (by simpa [SV.under,aC] using li)) ⟨_,⟨rfl,by rw[e];rfl⟩,hlm,hu l⟩
def O7 (G:Gl) (m:Nat):Prop:=∀ (e:Ex) (H:List av),e.wt≤m→aq Tryz.prog G 29 [e.sv] H (fun r H'=>H'=H∧r= .int .i64 (gA m e))
theorem tq (n d:Nat):(if (n:Int)<(d:Int) then (d:Int) else (n:Int))=((max n d:Nat):Int):=by
 split<;>omega
theorem Ga (G:Gl) (hG:ah G) (m:Nat) (hm:m<549755813888) (hrec:O7 G m) (p:Ex) (H:List av) (n nb:Nat) (hp:p.wt≤m) (h1:H[nb]? =some (Aq n)) (hn:n<549755813888):
 aq Tryz.prog G 73 [p.sv,.ptr nb 0 0 0] H (fun r H'=>H'=H.set nb (Aq (max n (gA m p):Nat))∧r= .bool true):=by
 have hlt:nb<H.length:=(List.getElem?_eq_some_iff.1 h1).1
 have hd:=sX m p
 have c1:=fun H=>hrec p H hp
 generalize gA m p=d at*
 refine bP [] Tryz.func73 Tryz.ntmps73 fun C R' hR hC hcl hB hC' X=>?_
 have X:=And.intro h1 (show IntKind.i64.min≤(d:Int)∧(d:Int)≤IntKind.i64.max from⟨by show(-9223372036854775808:Int)≤_;omega,by show _≤(9223372036854775807:Int);omega⟩)
 unfold Aq at X
 (refine run ?_)
 rw[tq]
 exact Fin.aS (n0:=H.length) hR (by simp) hC' (hcl.set rfl) (.same _ rfl) ⟨rfl,rfl⟩
theorem GH (l:List Nat) (i:Nat) (h:i<l.length):gJ (l.take (i+1))=max (gJ (l.take i)) l[i]:=by
 rw[List.take_succ_eq_append_getElem h,B9]
theorem Be (G:Gl) (hG:ah G):∀ m,m<549755813888→O7 G m
 |0,_,e,_,h=>absurd e.bZ (by omega)
 |m+1,hm2,e,H,hm=>by
  have hrec:=Be G hG m (by omega)
  have hmx:∀ i,gJ ((e.parts.map (gA m)).take i)≤m:=fun i=>zz fun x hx=>by
   obtain⟨p,_,rfl⟩:=List.mem_map.1 (List.mem_of_mem_take hx)
   exact sX m p
  refine bP [] Tryz.func29 Tryz.ntmps29 fun C R' hR hC hcl hB hC' X=>?_
  have heach:=EI G hG e (by omega) (.fn (.func 73) [] [.ptr (H.length+1) 0 0 0]) (fun i=>H++[.cells 0 8 [.agg e.cells],Aq (gJ ((e.parts.map (gA m)).take i):Nat)]) (H.length+2) (fun i=>by simp) (by simp[SV.under,SV.aj])
   (fun h i=>by
    have:=h.set (id:=H.length+1) (b:=Aq (gJ ((e.parts.map (gA m)).take i):Nat)) rfl
    simpa using this) (fun i p X hp=>by
    have hpw:=Ex.cm (List.mem_of_getElem? hp)
    have hlp:=(List.getElem?_eq_some_iff.1 hp)
    have hli:i<(e.parts.map (gA m)).length:=by simpa using hlp.1
    have hnx:=GH (e.parts.map (gA m)) i hli
    have hget:(e.parts.map (gA m))[i]=gA m p:=by simp[hlp.2]
    rw[hget] at hnx
    have hi:=hmx i
    refine aY.of (first:=[]) (args:=[p.sv]) (cap:=[.ptr (H.length+1) 0 0 0]) ((Ga G hG m (by omega) hrec p _ (gJ ((e.parts.map (gA m)).take i)) (H.length+1) (by omega) (by simp) (by omega)).mono ?_)
    rintro r H' ⟨rfl,rfl⟩
    refine⟨?_,rfl⟩
    rw[hnx]
    simp)
  have h0:gJ ((e.parts.map (gA m)).take 0)=0:=rfl
  have hall:gJ ((e.parts.map (gA m)).take e.parts.length)=gJ (e.parts.map (gA m)):=by
   rw[List.take_of_length_le (by simp)]
  simp only[Aq,h0,hall] at heach
  have hmm:=hmx e.parts.length
  rw[hall] at hmm
  unfold gA at hR
  generalize gJ (e.parts.map (gA m))=d at*
  (refine run ?_)
  refine br heach ?_
  rintro r H' ⟨rfl,rfl⟩
  (refine run ?_)
  exact Fin.aS (n0:=H.length) hR (by simp) hC' hcl (.same _ rfl) ⟨rfl,by simp only[aC];rfl⟩
theorem H3 (G:Gl) (hG:ah G) (l:List aD) (H:List av) (id g:Nat) (hid:H[id]? =some (.cells g 1 (l.map .str))) (hl:l.length<1099511627776):
 aq Tryz.prog G 43 [.sl id g 0 l.length] H (fun r H'=>H'=H++[.cells 0 1 (l.map .str)]∧r= .sl H.length 0 0 l.length):=by
 have li:=(List.getElem?_eq_some_iff.1 hid).1
 have hlm:(l.map SV.str).length=l.length:=List.length_map ..
 have ht:List.take l.length (l.map SV.str)=l.map SV.str:=List.take_of_length_le (by omega)
 refine bP [2,5] Tryz.func43 Tryz.ntmps43 fun C R' hR hC hcl hB hC' X=>?_
 have X:=iY X hid hlm ht
 (refine bK ?_;with_reducible repeat' first|exact trivial|(apply aJ.mk<;>intro hb)|apply bN.mk)
 ·obtain rfl:l=[]:=List.length_eq_zero_iff.1 hb
  exact gD [(H.length+1,0)] (.sl H.length 0 0 0) [.cells 0 1 []] hR hC' hcl ⟨rfl,rfl⟩
 ·exact gD [(H.length+1,0)] (.sl H.length 0 0 l.length) [.cells 0 1 (l.map .str)] hR hC' hcl ⟨rfl,rfl⟩
theorem FN:∀ (l:List Bd) (t:List (aD×Int)),(∀ s,0≤da t s∧da t s≤1)→∀ s,0≤da (l.foldl (fun t b=>kU t b.name 1) t) s∧da (l.foldl (fun t b=>kU t b.name 1) t) s≤1
 |[],t,h=>h
 |b::r,t,h=>by
  rw[List.foldl_cons]
  refine FN r _ fun s=>?_
  rw[pK]
  split
  ·omega
  ·exact h s
theorem Ks (l:List Bd) (s:aD):0≤da (lW l) s∧da (lW l) s≤1:=FN l [] (fun s=>by simp[da]) s
theorem Hh (l:List Bd) (b:Bd):cN (kG (lW l)) (.str b.name) (.int .i64 1)=kG (lW (l++[b])):=by
 rw[rL,lW,lW,List.foldl_append];rfl
theorem Eb (l:List Bd) (b:Bd):e9 (l++[b])=e9 l+b.e.size:=by simp[e9]
theorem F9 (l:List Bd) (b:Bd):oZ (l++[b])=max (oZ l) (dep b.e):=by rw[oZ,List.map_append,List.map_cons,List.map_nil,B9];rfl
theorem CJ:∀ l:List Bd,e9 l≤aV l
 |[]=>Nat.le_refl _
 |b::r=>by
  have h1:=CJ r
  have h2:=px b.e.wt b.e (Nat.le_refl _)
  have h3:=b.dw
  simp only[e9,List.map_cons,List.sum_cons,aV] at*
  omega
theorem oV (l:List Bd) (i:Nat):aV (l.take i)≤aV l:=by
 induction l generalizing i with
 |nil=>simp
 |cons b r ih=>
  cases i with
  |zero=>simp[aV]
  |succ i=>simp only[List.take_succ_cons,aV];have:=ih i;omega
theorem H8 (e:Ex):dep e≤e.wt:=sX _ _
theorem Lv (l:List Bd):oZ l≤aV l:=zz fun x hx=>by
 obtain⟨b,hb,rfl⟩:=List.mem_map.1 hx
 have:=H8 b.e
 have:=tO hb
 omega
theorem wT (G:Gl) (hG:ah G) (l:List Ex) (H:List av) (hl:l.length<274877906944):aq Tryz.prog G 90 [.list 8 (ag l)] H (fun r H'=>H'=H++[.cells 0 8 (ag l)]∧r= .sl H.length 0 0 l.length):=by
 refine bP [2,5] Tryz.func90 Tryz.ntmps90 fun C R' hR hC hcl hB hC' X=>?_
 (refine bK ?_;with_reducible repeat' first|exact trivial|(apply aJ.mk<;>intro hb)|apply bN.mk)
 ·obtain rfl:l=[]:=List.length_eq_zero_iff.1 hb
  exact gD [(H.length+1,0)] (.sl H.length 0 0 0) [.cells 0 8 []] hR hC' hcl ⟨rfl,rfl⟩
 ·exact gD [(H.length+1,0)] (.sl H.length 0 0 l.length) [.cells 0 8 (ag l)] hR hC' hcl ⟨rfl,rfl⟩
theorem wS (G:Gl) (hG:ah G) (l:List Bd) (H:List av) (hl:l.length<274877906944):aq Tryz.prog G 99 [.list 9 (ad l)] H (fun r H'=>H'=H++[.cells 0 9 (ad l)]∧r= .sl H.length 0 0 l.length):=by
 refine bP [2,5] Tryz.func99 Tryz.ntmps99 fun C R' hR hC hcl hB hC' X=>?_
 (refine bK ?_;with_reducible repeat' first|exact trivial|(apply aJ.mk<;>intro hb)|apply bN.mk)
 ·obtain rfl:l=[]:=List.length_eq_zero_iff.1 hb
  exact gD [(H.length+1,0)] (.sl H.length 0 0 0) [.cells 0 9 []] hR hC' hcl ⟨rfl,rfl⟩
 ·exact gD [(H.length+1,0)] (.sl H.length 0 0 l.length) [.cells 0 9 (ad l)] hR hC' hcl ⟨rfl,rfl⟩
theorem kF (G:Gl) (hG:ah G) (l:List Al) (H:List av) (hl:l.length<274877906944):aq Tryz.prog G 100 [.list 12 (af l)] H (fun r H'=>H'=H++[.cells 0 12 (af l)]∧r= .sl H.length 0 0 l.length):=by
 refine bP [2,5] Tryz.func100 Tryz.ntmps100 fun C R' hR hC hcl hB hC' X=>?_
 (refine bK ?_;with_reducible repeat' first|exact trivial|(apply aJ.mk<;>intro hb)|apply bN.mk)
 ·obtain rfl:l=[]:=List.length_eq_zero_iff.1 hb
  exact gD [(H.length+1,0)] (.sl H.length 0 0 0) [.cells 0 12 []] hR hC' hcl ⟨rfl,rfl⟩
 ·exact gD [(H.length+1,0)] (.sl H.length 0 0 l.length) [.cells 0 12 (af l)] hR hC' hcl ⟨rfl,rfl⟩
section
def fz (kd:Int) (nm:aD) (names:List aD):List aD:=names++if kd=6 then [nm] else []
def dK (s:aD) (r:Ex):Nat→Ex→Ex
 |0,e=>e
 |m+1,.mk kd nm nn op names ae binds alts=>
  if kd=1 then (if nm=s then r else .mk kd nm nn op names ae binds alts) else
  .mk kd nm nn op names (ae.map fun x=>if s∈cA kd names binds then x else dK s r m x)
   (binds.map fun b=> .mk b.name (if s∈cA kd names binds then b.e else dK s r m b.e))
   (alts.map fun a=> .mk a.kind a.name a.n a.names (if s∈fz kd nm a.names then a.body else dK s r m a.body))
def mix {α:Type} (f:α→α) (l:List α) (i:Nat):List α:=(l.take i).map f++l.drop i
theorem zE {α:Type} (f:α→α) (l:List α) (i:Nat) (h:i≤l.length):(mix f l i).length=l.length:=by simp[mix];omega
theorem vd {α:Type} (f:α→α) (l:List α):mix f l 0=l:=by simp[mix]
theorem zC {α:Type} (f:α→α) (l:List α):mix f l l.length=l.map f:=by simp[mix]
theorem zD {α:Type} (f:α→α) (l:List α) (i:Nat) (h:i<l.length):(mix f l i)[i]? =some l[i]:=by
 rw[mix,List.getElem?_append_right (by rw[List.length_map,List.length_take];omega),List.length_map,List.length_take,Nat.min_eq_left (by omega),Nat.sub_self,List.getElem?_drop,Nat.add_zero,List.getElem?_eq_getElem h]
theorem zF {α:Type} (f:α→α) (l:List α) (i:Nat) (h:i<l.length):(mix f l i).set i (f l[i])=mix f l (i+1):=by
 rw[mix,mix,List.set_append,if_neg (by rw[List.length_map,List.length_take];omega),List.length_map,List.length_take,Nat.min_eq_left (by omega),Nat.sub_self,List.take_succ_eq_append_getElem h,List.map_append,List.append_assoc,List.drop_eq_getElem_cons h]
 rfl
theorem Bp (f:Ex→Ex) (l:List Ex) (i:Nat) (h:i<l.length):(ag (mix f l i))[i]? =some (.agg l[i].cells):=by rw[aL,List.getElem?_map,zD f l i h];rfl
theorem AG (f:Bd→Bd) (l:List Bd) (i:Nat) (h:i<l.length):(ad (mix f l i))[i]? =some (.agg (.str l[i].name::l[i].e.cells)):=by rw[az,List.getElem?_map,zD f l i h,Option.map_some,Bd.sv,Bd.bf]
theorem Ax (f:Al→Al) (l:List Al) (i:Nat) (h:i<l.length):(af (mix f l i))[i]? =some (.agg (.int .i64 l[i].kind:: .str l[i].name:: .int .i64 l[i].n:: .list 1 (l[i].names.map .str)::l[i].body.cells)):=by
 rw[bh,List.getElem?_map,zD f l i h,Option.map_some,Al.sv,Al.bf]
theorem um (f:Ex→Ex) (l:List Ex) (i:Nat) (h:i<l.length):(ag (mix f l i)).set i (.agg (f l[i]).cells)=ag (mix f l (i+1)):=by
 rw[aL,aL,← zF f l i h,List.map_set];rfl
theorem tN (f:Bd→Bd) (l:List Bd) (i:Nat) (h:i<l.length):(ad (mix f l i)).set i (.agg (.str (f l[i]).name::(f l[i]).e.cells))=ad (mix f l (i+1)):=by
 rw[az,az,← zF f l i h,List.map_set,Bd.sv,Bd.bf]
theorem tJ (f:Al→Al) (l:List Al) (i:Nat) (h:i<l.length):
 (af (mix f l i)).set i (.agg (.int .i64 (f l[i]).kind:: .str (f l[i]).name:: .int .i64 (f l[i]).n:: .list 1 ((f l[i]).names.map .str)::(f l[i]).body.cells))=af (mix f l (i+1)):=by
 rw[bh,bh,← zF f l i h,List.map_set,Al.sv,Al.bf]
theorem yZ (f:Ex→Ex) (l:List Ex) (i:Nat) (h:i≤l.length):(ag (mix f l i)).take l.length=ag (mix f l i):=List.take_of_length_le (by simp[aL,zE f l i h])
theorem yI (f:Bd→Bd) (l:List Bd) (i:Nat) (h:i≤l.length):(ad (mix f l i)).take l.length=ad (mix f l i):=List.take_of_length_le (by simp[az,zE f l i h])
theorem yB (f:Al→Al) (l:List Al) (i:Nat) (h:i≤l.length):(af (mix f l i)).take l.length=af (mix f l i):=List.take_of_length_le (by simp[bh,zE f l i h])
section
variable {P:Program} {G:Gl} {T:bX} {own:List Nat} {nt B:Nat} {ρ:Option Nat} {C:Cx} {rs:List ResultVar} {R:SV→List av→Prop} {env env2:Env} {H X KB:List av} {k:List It}
theorem QO {p:Prop} (h:p:=by repeat' (first|exact b7.nil|(refine b7.cons _ _ _ _ ?_ ?_)|(apply bF.same;exact jF)|(apply bF.ks 3 rfl;(· exact dA);(· omega);(· omega);(· omega);(· omega))|(apply bF.ks 4 rfl;(· exact dA);(· omega);(· omega);(· omega);(· omega))|(apply bF.ks 5 rfl;(· exact dA);(· omega);(· omega);(· omega);(· omega))|(apply bF.ks 6 rfl;(· exact dA);(· omega);(· omega);(· omega);(· omega))|(apply bF.ks 7 rfl;(· exact dA);(· omega);(· omega);(· omega);(· omega))|fail)):p:=h
theorem tD (ks:dP) {n0:Nat} (hG:ah G) (hB:dW G C.H.length) (hC:C.H.length=n0) (hcl:closed H) (hn:H.length=n0:=by first|rfl|(simp;done)|exact hlen _)
 (hk:bH (H++X) n0 ks ks KB:=by
  repeat' (first|exact bH.nil|(apply bH.c;(· exact dA);(· omega);(· first|omega|(simp<;>omega));(· first|(apply b7.same;exact jF)|(refine b7.cons _ _ _ _ ?_ b7.nil;apply bF.agg;exact QO)|exact gi))|exact kc))
 (hd:(ks.map (·.1)).Nodup:=by first|rfl|decide|simp)
 (he:hY (H++X) n0 ks env2 env:=by
  repeat' (first|exact True.intro|(refine And.intro ⟨_,rfl,?_⟩ ?_)|(apply bF.fn;(· exact gi);(· exact gi))|(apply bF.kp 5 rfl;(· exact dA);(· omega);(· omega);(· omega))|(apply bF.kp 6 rfl;(· exact dA);(· omega);(· omega);(· omega))|(apply bF.kp 7 rfl;(· exact dA);(· omega);(· omega);(· omega))|exact kc)):Wk G nt C ⟨env,H++X⟩ ⟨env2,H++KB⟩:=Wk.xJ ks hG hB hn hC hcl hk hd he
end
theorem Ka (G:Gl) (hG:ah G) (s:aD) (r:Ex) (m:Nat) (hrec:∀ (e:Ex) (H:List av),e.wt≤m→aq Tryz.prog G 58 [e.sv,.str s,r.sv] H (fun v H'=>H'=H∧v=(dK s r m e).sv))
 (x:Ex) (hx:x.wt≤m) (names:List aD) (hn:names.length<4611686018427387904) (H:List av) (nb rb:Nat) (h1:H[nb]? =some (.cells 0 1 [.str s])) (h2:H[rb]? =some (.cells 0 8 [.agg r.cells])):
 aq Tryz.prog G 98 [x.sv,.list 1 (names.map .str),.ptr nb 0 0 0,.ptr rb 0 0 0] H (fun v H'=>H'=H∧v=(if s∈names then x else dK s r m x).sv):=by
 have hl1:nb<H.length:=(List.getElem?_eq_some_iff.1 h1).1
 have hl2:rb<H.length:=(List.getElem?_eq_some_iff.1 h2).1
 refine bP [] Tryz.func98 Tryz.ntmps98 fun C R' hR hC hcl hB hC' X=>?_
 have X:=And.intro h1 h2
 (refine run ?_)
 refine br (gR G names s _ hn) ?_
 rintro v H' ⟨rfl,rfl⟩
 (refine run ?_;with_reducible repeat' first|exact trivial|(apply aJ.mk<;>intro hb)|apply bN.mk)
 ·rw[if_pos hb] at hR
  exact Fin.aS (n0:=H.length) hR rfl hC' hcl (.same _ (Ex.gx _ _)) ⟨rfl,rfl⟩
 ·rw[if_neg hb] at hR
  refine br (hrec x _ hx) ?_
  rintro v H' ⟨rfl,rfl⟩
  (refine run ?_)
  exact Fin.aS (n0:=H.length) hR rfl hC' hcl (.same _ (Ex.gx _ _)) ⟨rfl,rfl⟩
end

theorem iM (G:Gl) (hG:ah G) (p:Pg) (H:List av) (hw:aV p.binds<549755813887) (hcn:p.cons.length<1099511627776):
 aq Tryz.prog G 12 [p.sv] H (fun r H'=>H'=H∧r= .int .i64 (bJ p)):=by
 obtain⟨cons,binds⟩:=p
 simp only at hw hcn
 rw[show(Pg.mk cons binds).sv= .agg [.list 4 (ay cons),.list 9 (ad binds)] from rfl]
 have hle:=cM binds
 have hszl:=fun i=>Nat.le_trans (CJ (binds.take i)) (oV binds i)
 have hdpl:=fun i=>Nat.le_trans (Lv (binds.take i)) (oV binds i)
 have cC:=fun n=>aX n cons
 generalize hS:bJ ⟨cons,binds⟩=S
 refine bP [] Tryz.func12 Tryz.ntmps12 fun C R' hR hC hcl hB hC' X=>?_
 (refine run ?_)
 refine aA (fun i:Nat=>[(1,.ptr H.length 0 0 0),(2,.int .i64 0),(3,.int .i64 (e9 (binds.take i):Int)),(4,.int .i64 (oZ (binds.take i):Int)),(16,.list 9 (ad binds)),(17,.int .i64 binds.length),(18,.int .i64 i)])
  (fun i=>H++[.cells 0 2 [.agg [.list 4 (ay cons),.list 9 (ad binds)]]]) (fun i=>binds.length - i) (fun i=>i≤binds.length) 0 (Nat.zero_le _) ?_ ?_
 ·simp only[List.take_zero,show e9 []=0 from rfl,show oZ []=0 from rfl]
  exact bI (n0:=H.length) [(H.length,0)] hG hB hC' hcl
 rintro K i hi hK
 rcases Nat.lt_or_ge i binds.length with hlt|hge
 ·have hpb:=tO (List.getElem_mem hlt)
  have hsw:=px binds[i].e.wt binds[i].e (Nat.le_refl _)
  have c1:=fun H=>MP G hG binds[i].e H (by omega) (by omega)
  have c2:∀ H,aq Tryz.prog G 29 [binds[i].e.sv] H (fun r H'=>H'=H∧r= .int .i64 (dep binds[i].e)):=fun H=>Be G hG binds[i].e.wt (by omega) binds[i].e H (Nat.le_refl _)
  have hdw:=H8 binds[i].e
  have ht:=List.take_succ_eq_append_getElem hlt
  have e1:e9 (binds.take (i+1))=e9 (binds.take i)+binds[i].e.size:=by rw[ht,Eb]
  have e2:oZ (binds.take (i+1))=max (oZ (binds.take i)) (dep binds[i].e):=by rw[ht,F9]
  have h1:=hszl i
  have h2:=hszl (i+1)
  have h3:=hdpl i
  have hmx:=tq (oZ (binds.take i)) (dep binds[i].e)
  generalize binds[i].e.size=sz at*
  generalize e9 (binds.take i)=s0 at*
  generalize oZ (binds.take i)=d0 at*
  generalize dep binds[i].e=d1 at*
  have X:=fc aO hmx (show IntKind.i64.min≤(d1:Int)∧(d1:Int)≤IntKind.i64.max from⟨by show(-9223372036854775808:Int)≤_;omega,by show _≤(9223372036854775807:Int);omega⟩)
  (refine run ?_;with_reducible repeat' first|exact trivial|(apply aJ.mk<;>intro hb)|apply bN.mk)
  refine hK _ _ (i+1) (by omega) (by omega) ?_
  rw[e1,e2]
  exact bI (n0:=H.length) [(H.length,0)] hG hB hC' hcl
 obtain rfl:i=binds.length:=by omega
 clear hK
 simp only[List.take_length]
 have X:=And.intro aO (Int.lt_irrefl (binds.length:Int))
 have hfc:(100000:Int)<(e9 binds:Int)↔100000<e9 binds:=by omega
 have hfd:(1000:Int)<(oZ binds:Int)↔1000<oZ binds:=by omega
 (refine run ?_;with_reducible repeat' first|exact trivial|(apply aJ.mk<;>intro hb)|apply bN.mk)
 ·have e:bJ ⟨cons,binds⟩=3:=if_pos (hfc.1 hb)
  rw[← hS,e] at hR
  exact aZ (n0:=H.length) hR hC' hcl (.same _ rfl) ⟨rfl,rfl⟩
 ·have q1:¬ (100000:Int)<(e9 binds:Int):=by assumption
  have e:bJ ⟨cons,binds⟩=4:=(if_neg (fun h=>q1 (hfc.2 h))).trans (if_pos (hfd.1 hb))
  rw[← hS,e] at hR
  exact aZ (n0:=H.length) hR hC' hcl (.same _ rfl) ⟨rfl,rfl⟩
 have q1:¬ 100000<e9 binds:=fun h=>absurd (hfc.2 h) (by assumption)
 have q2:¬ 1000<oZ binds:=fun h=>hb (hfd.2 h)
 clear hfc hfd hb
 refine br (sc G hG cons binds _ (by omega)) ?_
 rintro r H' ⟨rfl,rfl⟩
 simp only[List.append_assoc,List.cons_append,List.nil_append,List.length_append,List.length_cons,List.length_nil,List.length_set,X,Nat.reduceAdd]
 have hbl:=dG binds
 (refine run ?_)
 refine br (rR G (H.length+4) 0 (aU binds) _ (by simp) (by omega)) ?_
 rintro r H' ⟨rfl,rfl⟩
 simp only[bW,List.set_cons_succ,List.set_cons_zero]
 have hnl:(cW (aU binds)).length=(aU binds).length:=iV _
 rw[← hnl]
 generalize hNM:cW (aU binds)=nm at*
 (refine run ?_)
 refine aA (fun i:Nat=>[(1,.ptr H.length 0 0 0),(7,.fn (.func 30) [] [.ptr H.length 0 0 0]),(8,.ptr (H.length+3) 0 0 0),(9,.sl (H.length+4) 0 0 nm.length),(10,.ptr (H.length+6) 0 0 0),(49,.list 9 (ad binds)),(50,.int .i64 binds.length),(51,.int .i64 i)])
  (fun i=>H++[.cells 0 2 [.agg [.list 4 (ay cons),.list 9 (ad binds)]],.map none [],.cells 0 1 [.agg [.map (H.length+1)]],.cells 0 1 [.ptr (H.length+2) 0 0 0],.cells 0 1 (nm.map .str),.map none (kG (lW (binds.take i))),.cells 0 1 [.map (H.length+5)]]) (fun i=>binds.length - i) (fun i=>i≤binds.length) 0 (Nat.zero_le _) ?_ ?_
 ·exact tD (n0:=H.length) [(H.length,0),(H.length+1,0),(H.length+2,0),(H.length+3,0),(H.length+4,0),(H.length+5,0),(H.length+6,0)] hG hB hC' hcl
 rintro K i hi hK
 rcases Nat.lt_or_ge i binds.length with hlt|hge
 ·have ht:=List.take_succ_eq_append_getElem hlt
  have hsn:=Hh (binds.take i) binds[i]
  rw[← ht] at hsn
  have X:=And.intro aO hsn
  (refine run ?_;with_reducible repeat' first|exact trivial|(apply aJ.mk<;>intro hb)|apply bN.mk)
  refine hK _ _ (i+1) (by omega) (by omega) ?_
  exact tD (n0:=H.length) [(H.length,0),(H.length+1,0),(H.length+2,0),(H.length+3,0),(H.length+4,0),(H.length+5,0),(H.length+6,0)] hG hB hC' hcl
 obtain rfl:i=binds.length:=by omega
 clear hK
 simp only[List.take_length]
 have X:=And.intro aO (Int.lt_irrefl (binds.length:Int))
 (refine run ?_)
 have hwb:∀ x:Ex,x.wt≤aV binds→x.wt<549755813888:=fun x hx=>by omega
 refine eS (aY.of (first:=[]) (args:=[.fn (.func 40) [] []]) (cap:=[.ptr H.length 0 0 0]) (uj G hG 40 [] [] sU cons binds (by omega) _ H.length (by simp) rfl
  (fun x hx X=>aY.of (first:=[]) (args:=[x.sv]) (cap:=[]) (G6 G hG x (hwb x hx) _)))) ?_
 rintro r H' ⟨rfl,rfl⟩
 cases q3:(binds.all fun b=>eM sU b.e)
 ·(refine run ?_)
  have e:bJ ⟨cons,binds⟩=120:=by unfold bJ;rw[if_neg q1,if_neg q2,if_pos (by rw[q3];rfl)]
  rw[← hS,e] at hR
  exact aZ (n0:=H.length) hR hC' hcl (.same _ rfl) ⟨rfl,rfl⟩
 (refine run ?_)
 refine br (Mq G hG _ (H.length+2) (H.length+1) cons (by simp) (by simp) hcn) ?_
 rintro r H' ⟨l,⟨rfl,rfl⟩,hl⟩
 simp only[bW,List.set_cons_succ,List.set_cons_zero]
 cases q4:ga [] cons
 ·(refine run ?_)
  have e:bJ ⟨cons,binds⟩=121:=by unfold bJ;rw[if_neg q1,if_neg q2,if_neg (by rw[q3];exact Bool.false_ne_true),if_pos (by rw[q4];rfl)]
  rw[← hS,e] at hR
  exact aZ (n0:=H.length) hR hC' hcl (.same _ rfl) ⟨rfl,rfl⟩
 obtain rfl:=hl q4
 (refine run ?_;with_reducible repeat' first|exact trivial|(apply aJ.mk<;>intro hb)|apply bN.mk)
 ·have q5:dd binds=true:=by
   unfold dd
   rw[hNM,← hnl,List.getD_eq_getElem?_getD,List.getElem?_eq_getElem (by omega)]
   simp only[Option.getD_some,OZ,hb,decide_true,Bool.and_true,Bool.or_eq_true,decide_eq_true_eq]
   exact .inl (by omega)
  have e:bJ ⟨l,binds⟩=122:=by unfold bJ;rw[if_neg q1,if_neg q2,if_neg (by rw[q3];exact Bool.false_ne_true),if_neg (by rw[q4];exact Bool.false_ne_true),if_pos q5]
  rw[← hS,e] at hR
  exact aZ (n0:=H.length) hR hC' hcl (.same _ rfl) ⟨rfl,rfl⟩
 all_goals
  have q50:(decide (0<(aU binds).length)&&OZ ((cW (aU binds)).getD 0 []) [])=false:=by
   first
   |(rw[show decide (0<(aU binds).length)=false from decide_eq_false (by omega)];rfl)
   |(rw[hNM,List.getD_eq_getElem?_getD,List.getElem?_eq_getElem (by omega)];simp only[Option.getD_some,OZ,hb,decide_false,Bool.and_false])
  refine br (H3 G hG nm _ (H.length+4) 0 (by simp) (by omega)) ?_
  rintro r H' ⟨rfl,rfl⟩
  simp only[List.append_assoc,List.cons_append,List.nil_append,List.length_append,List.length_cons,List.length_nil,List.length_set,X,Nat.reduceAdd]
  (refine run ?_)
  refine br (Dj G hG nm _ (H.length+8) 0 (by simp) (by omega)) ?_
  rintro r H' ⟨vs,⟨rfl,rfl⟩,hvl,hvu⟩
  simp only[bW,List.set_cons_succ,List.set_cons_zero]
  have hbn:dd binds=decide ((sQ nm).length≠nm.length):=by
   unfold dd
   rw[q50,hNM,Bool.false_or,hnl]
  by_cases hdn:(sQ nm).length=nm.length
  rotate_left
  ·have hdi:¬ ((sQ nm).length:Int)=(nm.length:Int):=by omega
   (refine run ?_)
   have q5:dd binds=true:=by rw[hbn];exact decide_eq_true hdn
   have e:bJ ⟨l,binds⟩=122:=by unfold bJ;rw[if_neg q1,if_neg q2,if_neg (by rw[q3];exact Bool.false_ne_true),if_neg (by rw[q4];exact Bool.false_ne_true),if_pos q5]
   rw[← hS,e] at hR
   exact aZ (n0:=H.length) hR hC' hcl (.same _ rfl) ⟨rfl,rfl⟩
  have q5:dd binds=false:=by rw[hbn];exact decide_eq_false (fun h=>h hdn)
  rw[hdn]
  have hany:(binds.any fun b=>!sO (lW binds) b)=!(binds.all (sO (lW binds))):=by rw[List.all_eq_not_any_not,Bool.not_not]
  (refine run ?_)
  refine br (AB G hG (.fn (.func 44) [] [.ptr (H.length+7) 0 0 0]) (fun b=>!sO (lW binds) b) binds _ (by omega) (by simp[SV.under,SV.aj]) (fun b hb=>aY.of (first:=[]) (args:=[b.sv]) (cap:=[.ptr (H.length+7) 0 0 0])
   (F3 G hG (lW binds) (Ks binds) b (hwb _ (Nat.le_of_lt (tO hb))) _ (H.length+7) (H.length+6) (H.length+5) (by simp) (by simp) (by simp)))) ?_
  rintro r H' ⟨rfl,rfl⟩
  rw[hany]
  cases q6:binds.all (sO (lW binds))
  ·(refine run ?_)
   have e:bJ ⟨l,binds⟩=123:=by unfold bJ;rw[if_neg q1,if_neg q2,if_neg (by rw[q3];exact Bool.false_ne_true),if_neg (by rw[q4];exact Bool.false_ne_true),if_neg (by rw[q5];exact Bool.false_ne_true),if_pos (by rw[q6];rfl)]
   rw[← hS,e] at hR
   exact aZ (n0:=H.length) hR hC' hcl (.same _ rfl) ⟨rfl,rfl⟩
  (refine run ?_)
  refine eS (aY.of (first:=[]) (args:=[]) (cap:=[.ptr (H.length+3) 0 0 0]) (Je G hG _ (H.length+2) (H.length+1) (H.length+3) l ⟨by simp,by simp⟩ (by simp))) ?_
  rintro r H' ⟨rfl,rfl⟩
  cases q7:mV l
  ·(refine run ?_)
   have e:bJ ⟨l,binds⟩=124:=by unfold bJ;rw[if_neg q1,if_neg q2,if_neg (by rw[q3];exact Bool.false_ne_true),if_neg (by rw[q4];exact Bool.false_ne_true),if_neg (by rw[q5];exact Bool.false_ne_true),if_neg (by rw[q6];exact Bool.false_ne_true),if_pos (by rw[q7];rfl)]
   rw[← hS,e] at hR
   exact aZ (n0:=H.length) hR hC' hcl (.same _ rfl) ⟨rfl,rfl⟩
  (refine run ?_)
  refine eS (aY.of (first:=[]) (args:=[.fn (.func 45) [.ptr (H.length+2) 0 0 0] []]) (cap:=[.ptr H.length 0 0 0]) (uj G hG 45 [.ptr (H.length+2) 0 0 0] [] (l9 l) l binds (by omega) _ H.length (by simp) (by simp[SV.under,SV.aj])
   (fun x hx X=>aY.of (first:=[.ptr (H.length+2) 0 0 0]) (args:=[x.sv]) (cap:=[]) (LI G hG _ (H.length+2) (H.length+1) l ⟨by simp,by simp⟩ x (hwb x hx))))) ?_
  rintro r H' ⟨rfl,rfl⟩
  cases q8:(binds.all fun b=>eM (l9 l) b.e)
  ·(refine run ?_)
   have e:bJ ⟨l,binds⟩=124:=by unfold bJ;rw[if_neg q1,if_neg q2,if_neg (by rw[q3];exact Bool.false_ne_true),if_neg (by rw[q4];exact Bool.false_ne_true),if_neg (by rw[q5];exact Bool.false_ne_true),if_neg (by rw[q6];exact Bool.false_ne_true),if_pos (by rw[q7,q8];rfl)]
   rw[← hS,e] at hR
   exact aZ (n0:=H.length) hR hC' hcl (.same _ rfl) ⟨rfl,rfl⟩
  (refine run ?_)
  refine eS (aY.of (first:=[]) (args:=[.fn (.func 46) [.ptr (H.length+2) 0 0 0] []]) (cap:=[.ptr H.length 0 0 0]) (uj G hG 46 [.ptr (H.length+2) 0 0 0] [] (sP l) l binds (by omega) _ H.length (by simp) (by simp[SV.under,SV.aj])
   (fun x hx X=>aY.of (first:=[.ptr (H.length+2) 0 0 0]) (args:=[x.sv]) (cap:=[]) (De G hG _ (H.length+2) (H.length+1) l ⟨by simp,by simp⟩ x (hwb x hx))))) ?_
  rintro r H' ⟨rfl,rfl⟩
  cases q9:(binds.all fun b=>eM (sP l) b.e)
  ·(refine run ?_)
   have e:bJ ⟨l,binds⟩=125:=by unfold bJ;rw[if_neg q1,if_neg q2,if_neg (by rw[q3];exact Bool.false_ne_true),if_neg (by rw[q4];exact Bool.false_ne_true),if_neg (by rw[q5];exact Bool.false_ne_true),if_neg (by rw[q6];exact Bool.false_ne_true),if_neg (by rw[q7,q8];exact Bool.false_ne_true),if_pos (by rw[q9];rfl)]
   rw[← hS,e] at hR
   exact aZ (n0:=H.length) hR hC' hcl (.same _ rfl) ⟨rfl,rfl⟩
  by_cases qm:da (lW binds) ct=0
  ·have qm':da (lW binds) [77,97,105,110,46,109,97,105,110]=0:=qm
   have X:=And.intro aO qm'
   (refine run ?_)
   have e:bJ ⟨l,binds⟩=126:=by unfold bJ;rw[if_neg q1,if_neg q2,if_neg (by rw[q3];exact Bool.false_ne_true),if_neg (by rw[q4];exact Bool.false_ne_true),if_neg (by rw[q5];exact Bool.false_ne_true),if_neg (by rw[q6];exact Bool.false_ne_true),if_neg (by rw[q7,q8];exact Bool.false_ne_true),if_neg (by rw[q9];exact Bool.false_ne_true),if_pos qm]
   rw[← hS,e] at hR
   exact aZ (n0:=H.length) hR hC' hcl (.same _ rfl) ⟨rfl,rfl⟩
  ·have qm':¬ da (lW binds) [77,97,105,110,46,109,97,105,110]=0:=qm
   have X:=aO
   (refine run ?_)
   have e:bJ ⟨l,binds⟩=0:=by unfold bJ;rw[if_neg q1,if_neg q2,if_neg (by rw[q3];exact Bool.false_ne_true),if_neg (by rw[q4];exact Bool.false_ne_true),if_neg (by rw[q5];exact Bool.false_ne_true),if_neg (by rw[q6];exact Bool.false_ne_true),if_neg (by rw[q7,q8];exact Bool.false_ne_true),if_neg (by rw[q9];exact Bool.false_ne_true),if_neg qm]
   rw[← hS,e] at hR
   exact aZ (n0:=H.length) hR hC' hcl (.same _ rfl) ⟨rfl,rfl⟩
theorem wV (l:List aD):∀ m,(dz l m).length=m→∀ i,i+1<m→l.getD (i+1) []≠l.getD i []
 |0,_,i,h=>by omega
 |m+1,hm,i,h=>by
  have h1:=Bc l m
  rw[dz] at hm
  split at hm
  ·omega
  ·rename_i hc
   rw[List.length_append,List.length_singleton] at hm
   rcases Nat.lt_or_ge (i+1) m with h2|h2
   ·exact wV l m (by omega) i h2
   ·obtain rfl:m=i+1:=by omega
    intro he
    exact hc ⟨by omega,by simpa using he⟩
theorem CL (l:List aD) {i j:Nat} (hj:j<(cW l).length) (hij:i<j):(cW l)[i]≤(cW l)[j]:=by
 have tr:∀ a b c:List UInt8,(decide (a≤b))=true→(decide (b≤c))=true→(decide (a≤c))=true:=fun a b c h1 h2=>by simp only[decide_eq_true_eq] at*;exact List.le_trans h1 h2
 have to:∀ a b:List UInt8,(decide (a≤b)||decide (b≤a))=true:=fun a b=>by simp only[Bool.or_eq_true,decide_eq_true_eq];exact List.le_total a b
 have h1:(cW l).Pairwise (fun x y:List UInt8=>(decide (x≤y))=true):=List.pairwise_mergeSort tr to _
 exact of_decide_eq_true (List.pairwise_iff_getElem.1 h1 i j (by omega) hj hij)
theorem Ac (l:List aD) (h:(sQ (cW l)).length=l.length):l.Nodup:=by
 have hl:(cW l).length=l.length:=iV _
 rw[sQ,← hl] at h
 refine(lS _).nodup_iff.1 (List.pairwise_iff_getElem.2 fun i j hi hj hij he=>?_)
 have hadj:=wV (cW l) _ h i (by omega)
 apply hadj
 rw[List.getD_eq_getElem?_getD,List.getD_eq_getElem?_getD,List.getElem?_eq_getElem (show i+1<(cW l).length by omega),List.getElem?_eq_getElem hi]
 simp only[Option.getD_some]
 have h1:=CL l (i:=i) (j:=i+1) (by omega) (by omega)
 rcases Nat.lt_or_ge (i+1) j with h2|h2
 ·have h3:=CL l hj h2
  rw[← he] at h3
  exact List.le_antisymm h3 h1
 ·obtain rfl:j=i+1:=by omega
  exact he.symm
structure Pa (p:Pg):Prop where
 Ap:∀ b∈p.binds,eM sU b.e=true
 cons:ga [] p.cons=true
 names:(aU p.binds).Nodup
 scope:∀ b∈p.binds,sO (lW p.binds) b=true
 Og:mV p.cons=true
 full:∀ b∈p.binds,eM (l9 p.cons) b.e=true
 alts:∀ b∈p.binds,eM (sP p.cons) b.e=true
theorem sD {p:Pg} (h:bJ p=0):Pa p:=by
 unfold bJ at h
 split at h
 ·cases h
 split at h
 ·cases h
 split at h
 ·cases h
 rename_i h3
 split at h
 ·cases h
 rename_i h4
 split at h
 ·cases h
 rename_i h5
 split at h
 ·cases h
 rename_i h6
 split at h
 ·cases h
 rename_i h7
 split at h
 ·cases h
 rename_i h8
 simp only[Bool.not_eq_true',Bool.not_eq_false,Bool.and_eq_true,List.all_eq_true] at h3 h4 h6 h7 h8
 refine⟨h3,by simpa using h4,?_,h6,h7.1,h7.2,h8⟩
 unfold dd at h5
 simp only[Bool.or_eq_true,not_or,decide_eq_true_eq,Decidable.not_not] at h5
 exact Ac _ h5.2
section
open Go Go.ChangeShapes Go.WideShapes Go.RowKit
def Cn.wt (c:Cn):Nat:=c.name.length+4
section
variable {H:Type} {enc:TypeId×Value→H} {W:World} {sp:Nat→Bool}
theorem MH (n:Nat):Rd enc Tryz.prog W sp n 35 Cn.cells Cn.wt:=by
 intro cs x hx
 obtain⟨xs,m,hm,rfl,hl,hlen,hf⟩:=DataW.trod_struct Tryz.underlying35 hx
 obtain⟨z0,z1,z2,z3,rfl⟩:∃ z0 z1 z2 z3,xs=[z0,z1,z2,z3]:=by
  match xs,(show xs.length=4 from hlen) with
  |[a,b,c,d],_=>exact⟨a,b,c,d,rfl⟩
 have hsz:Tryz.prog.cellsOf 35=4:=by kernel_rfl
 obtain⟨y0,s,e0,g0,w0⟩:=b8 hf 0 0 1 (by kernel_rfl) (by kernel_rfl) (nf m) (by simp)
 obtain⟨y1,a,e1,g1,w1⟩:=b8 hf 1 1 1 (by kernel_rfl) (by kernel_rfl) (fN m) (by simp)
 obtain⟨y2,b,e2,g2,w2⟩:=b8 hf 2 2 1 (by kernel_rfl) (by kernel_rfl) (fN m) (by simp)
 obtain⟨y3,c,e3,g3,w3⟩:=b8 hf 3 3 1 (by kernel_rfl) (by kernel_rfl) (fN m) (by simp)
 rw[hsz] at hl
 refine⟨⟨s,a,b,c⟩,?_,by rw[hsz,hl],?_⟩
 ·have:(Cn.mk s a b c).cells=[.str s]++([.int .i64 a]++([.int .i64 b]++([.int .i64 c]++[]))):=rfl
  rw[this,← List.drop_zero (l:=cs)]
  refine .cut g0 (.cut g1 (.cut g2 (.cut g3 ?_)))
  rw[List.drop_eq_nil_of_le (by omega)]
  exact .nil
 ·cases e0;cases e1;cases e2;cases e3
  simp only[Rows.uptoBulk,Rows.uptoBulkAll,List.map_cons,List.map_nil,Cn.wt]
  omega
theorem J7 (n:Nat):Rd enc Tryz.prog W sp n 22 (fun l:List Cn=>[.list 4 (ay l)]) (fun l=>1+(l.map Cn.wt).sum):=
 jx (enc:=enc) (P:=Tryz.prog) (W:=W) (sp:=sp) (t:=22) (e:=35) true (f:=Cn.cells) (wt:=Cn.wt) (n:=4) (N:=n) (by kernel_rfl) (by kernel_rfl) (by kernel_rfl) (by omega) (.inl rfl) (fun m _=>MH m)
def Pg.wt (p:Pg):Nat:=2+(p.cons.map Cn.wt).sum+oG p.binds
theorem zW (n:Nat):Rd enc Tryz.prog W sp n 25 Pg.cells Pg.wt:=by
 intro cs x hx
 obtain⟨xs,m,hm,rfl,hl,hlen,hf⟩:=DataW.trod_struct Tryz.underlying25 hx
 obtain⟨z0,z1,rfl⟩:=Fc (show xs.length=2 from hlen)
 have hsz:Tryz.prog.cellsOf 25=2:=by kernel_rfl
 obtain⟨y0,c,e0,g0,w0⟩:=b8 hf 0 0 1 (by kernel_rfl) (by kernel_rfl) (J7 m) (by simp)
 obtain⟨y1,b,e1,g1,w1⟩:=b8 hf 1 1 1 (by kernel_rfl) (by kernel_rfl) (J6 m) (by simp)
 rw[hsz] at hl
 refine⟨⟨c,b⟩,?_,by rw[hsz,hl],?_⟩
 ·have:(Pg.mk c b).cells=[.list 4 (ay c)]++([.list 9 (ad b)]++[]):=rfl
  rw[this,← List.drop_zero (l:=cs)]
  refine .cut g0 (.cut g1 ?_)
  rw[List.drop_eq_nil_of_le (by omega)]
  exact .nil
 ·cases e0;cases e1
  simp only[Rows.uptoBulk,Rows.uptoBulkAll,List.map_cons,List.map_nil,Pg.wt]
  omega
end
theorem tB {α:Type} {f:α→Nat} (h:∀ x,1≤f x):∀ l:List α,l.length≤(l.map f).sum
 |[]=>Nat.zero_le _
 |x::l=>by have:=h x;have:=tB h l;simp only[List.length_cons,List.map_cons,List.sum_cons];omega
theorem qU {α:Type} {f:α→Nat}:∀ {l:List α} {x:α},x∈l→f x≤(l.map f).sum
 |y::l,x,h=>by
  simp only[List.map_cons,List.sum_cons]
  rcases List.mem_cons.1 h with rfl|h
  ·omega
  ·have:=qU (f:=f) h;omega
theorem FL {l:List aD} {s:aD} (h:s∈l):s.length≤gw l:=by
 induction l with
 |nil=>cases h
 |cons x r ih=>
  simp only[gw]
  rcases List.mem_cons.1 h with rfl|h
  ·omega
  ·have:=ih h;omega
theorem sV:∀ (m:Nat) (e:Ex) {s:aD},s∈cF m e→s.length≤e.bw
 |0,e,s,h=>by cases h
 |m+1,.mk kd nm nn op names ae binds alts,s,h=>by
  have h1:cF (m+1) (.mk kd nm nn op names ae binds alts)=(if kd=3 then names else [])++ae.flatMap (cF m)++binds.flatMap (fun b=>b.name::cF m b.e)++(if kd=6 then [nm] else [])++alts.flatMap (fun a=>a.names++cF m a.body):=rfl
  rw[h1] at h
  simp only[List.mem_append,List.mem_flatMap] at h
  simp only[Ex.bw]
  rcases h with (((h|⟨x,hx,h⟩)|⟨b,hb,h⟩)|h)|⟨a,ha,h⟩
  ·split at h
   ·have:=FL h;omega
   ·cases h
  ·have:=sV m x h
   have h2:=qU (f:=Ex.bw) hx
   rw[← ru] at h2
   omega
  ·have h2:=qU (f:=Bd.bw) hb
   rw[← kE] at h2
   have h3:b.bw=1+b.name.length+b.e.bw:=by cases b;rfl
   rcases List.mem_cons.1 h with rfl|h
   ·omega
   ·have:=sV m b.e h
    omega
  ·split at h
   ·rw[List.mem_singleton.1 h];omega
   ·cases h
  ·have h2:=qU (f:=Al.bw) ha
   rw[← rf] at h2
   have h3:a.bw=1+a.name.length+gw a.names+a.body.bw:=by cases a;rfl
   rcases h with h|h
   ·have h4:=FL h
    omega
   ·have:=sV m a.body h
    omega
theorem mi {l:List Bd} {s:aD} (h:s∈aU l):s.length≤oG l:=by
 obtain⟨b,hb,h⟩:=List.mem_flatMap.1 h
 have h2:=qU (f:=Bd.bw) hb
 rw[← kE] at h2
 have h3:b.bw=1+b.name.length+b.e.bw:=by cases b;rfl
 rcases List.mem_cons.1 h with rfl|h
 ·omega
 ·have:=sV _ _ h;omega
end
theorem rZ (G:Gl) (hG:ah G) (binds:List Bd) (H:List av):aq Tryz.prog G 138 [.list 9 (ad binds)] H (fun r H'=>H'=H∧r= .fn (.func 163) [] [.gM (.list 9 (ad binds))]):=by
 refine bP [] Tryz.func138 Tryz.ntmps138 fun C R' hR hC hcl hB hC' X=>?_
 (refine bK ?_)
 refine Fin.aS (n0:=H.length) hR (by simp) (by rw[hC]) hcl (.fn _ _ _ _ _ .nil (.cons _ _ _ _ ?_ .nil)) ⟨rfl,rfl⟩
 refine .ptr _ _ _ _ _ _ _ (by exact dA) (Nat.le_refl _) (by simp) rfl (.same _ ?_)
 exact jF
theorem pH (G:Gl) (binds:List Bd) (hl:binds.length<1099511627776) (n1:Nat) (Hs:Nat→List av)
 (hy:∀ i (h:i<binds.length) X,aY Tryz.prog G (.it n1) [.int .i64 i,.agg (.str binds[i].name::binds[i].e.cells)] (Hs (i+1)++X) (fun r H'=>H'=Hs i++X∧r= .bool true)):
 aq Tryz.prog G 163 [.it n1,.gM (.list 9 (ad binds))] (Hs binds.length) (fun r H'=>H'=Hs 0):=by
 refine bP [] Tryz.func163 Tryz.ntmps163 fun C R' hR hC hcl hB hC' X=>?_
 (refine bK ?_)
 refine aA (fun a:Nat=>[(0,.it n1),(1,.gM (.list 9 (ad binds))),(3,.int .i64 ((a:Int) - 1))]) (fun a=>Hs a) (fun a=>a) (fun a=>a≤binds.length) binds.length (Nat.le_refl _) (Wk.sub (by simp[aW,look])) ?_
 intro K a ha hK
 (refine bK ?_;with_reducible repeat' first|exact trivial|(apply aJ.mk<;>intro hb)|apply bN.mk)
 ·have hlt:((a:Int) - 1).toNat<binds.length:=by omega
  have e:((a:Int) - 1)=(((a:Int) - 1).toNat:Nat):=by omega
  have e2:a=((a:Int) - 1).toNat+1:=by omega
  have hcall:=hy ((a:Int) - 1).toNat hlt []
  rw[← e,← e2,List.append_nil,List.append_nil] at hcall
  refine kM rfl ?_ rfl hcall ?_
  ·exact cw
  rintro r H' ⟨rfl,rfl⟩
  (refine bK ?_)
  refine hK _ _ ((a:Int) - 1).toNat (by omega) (by omega) (Wk.sub ?_)
  rw[← e]
  exact⟨rfl,rfl,rfl,trivial⟩
 ·have:a=0:=by omega
  subst this
  exact Fin.out hR rfl
end Go.Proofs.YtjdfoonhnmpkdaaGreatDoor
