/- A part of the proof: A11, A6, A4, A12, B8, A12b, A13, W8. Names and spaces are cut short by program. -/
import Derived.Test.YtjdfoonhnmpkdaaGreatDoorMi
set_option linter.unusedSimpArgs false
set_option linter.unusedVariables false
set_option maxRecDepth 10000
set_option maxHeartbeats 4000000
namespace Go.Proofs.YtjdfoonhnmpkdaaGreatDoor
open Go
theorem b7.app {H:List av} {n:Nat} {ks:dP}:∀ {a a' b b':List SV},b7 H n ks a a'→b7 H n ks b b'→b7 H n ks (a++b) (a'++b')
 |[],_,_,_,h,h2=>by cases h;exact h2
 |x::r,_,_,_,h,h2=>by cases h;rename_i h1 h3;exact .cons _ _ _ _ h1 (h3.app h2)
theorem GA (G:Gl) (hG:ah G) (id g k:Nat) (e:Ex) (H:List av) (hid:id<H.length):aq Tryz.prog G 91 [.sl id g 0 k,e.sv] H (fun r H'=>H'=H∧r= .agg [.int .i64 3,.str [],.int .i64 0,.int .i64 0,.sl id g 0 k,.list 8 [.agg e.cells],.list 9 [],.list 12 []]):=by
 have hu:=e.au
 have hut:=e.ao
 have huu:=e.aw H.length
 rw[show e.sv= .agg e.cells from rfl] at*
 generalize e.cells=xs at*
 refine bP [] Tryz.func91 Tryz.ntmps91 fun C R' hR hC hcl hB hC' X=>?_
 have X:=fc aO hu hut
 (refine run ?_)
 exact aZ (n0:=H.length) hR hC' hcl (.same _ (by simp only[aC,SV.under,SV.aj,huu,hid,decide_true,Bool.and_self])) ⟨rfl,rfl⟩
theorem u6 {α β:Type} {f:α→Nat→β×Nat} {l:List α} {D:List β} {n0 n i:Nat} (h:i<l.length) (hm:aG f l n0=(D++(aG f (l.drop i) n).1,(aG f (l.drop i) n).2)):
 aG f l n0=((D++[(f l[i] n).1])++(aG f (l.drop (i+1)) (f l[i] n).2).1,(aG f (l.drop (i+1)) (f l[i] n).2).2):=by
 rw[hm,List.drop_eq_getElem_cons h]
 simp only[aG,List.append_assoc,List.cons_append,List.nil_append]
theorem uT (nm:aD):∀ (l:List Al) (n:Nat),(aG (fq nm) l n).2=n+2*l.length
 |[],n=>rfl
 |a::r,n=>by rw[aG,uT nm r];simp only[fq,List.length_cons];omega
theorem pE (l:List Al) (k:Int) (s:aD) (n:Int) (ns:List aD) (e:Ex):af (l++[.mk k s n ns e])=af l++[.agg (.int .i64 k:: .str s:: .int .i64 n:: .list 1 (ns.map .str)::e.cells)]:=by
 rw[← ic]
 simp only[bh,List.map_append]
theorem yP {α:Type} {D l:List α} {i:Nat} (hD:D.length=i) (h:i<l.length):(D++l.drop i)[i]? =some l[i]:=by
 rw[List.getElem?_append_right (by omega),hD,Nat.sub_self,List.getElem?_drop,Nat.add_zero,List.getElem?_eq_getElem h]
theorem yR {α:Type} {D l:List α} {i:Nat} (hD:D.length=i) (h:i<l.length) (y:α):(D++l.drop i).set i y=(D++[y])++l.drop (i+1):=by
 rw[List.set_append,if_neg (by omega),hD,Nat.sub_self,List.drop_eq_getElem_cons h,List.set_cons_zero,List.append_assoc];rfl
theorem yQ {α:Type} {D l:List α} {i:Nat} (hD:D.length=i) (h:i≤l.length):(D++l.drop i).length=l.length:=by rw[List.length_append,hD,List.length_drop];omega
theorem Ex.ij (e:Ex):List.drop 8 e.cells=[]:=List.drop_eq_nil_of_le (by rw[e.au];exact Nat.le_refl _)
theorem rY {D l:List Al} {i:Nat} (hD:D.length=i) (h:i<l.length):(af (D++l.drop i))[i]? =some (.agg (.int .i64 l[i].kind:: .str l[i].name:: .int .i64 l[i].n:: .list 1 (l[i].names.map .str)::l[i].body.cells)):=by
 rw[bh,List.getElem?_map,yP hD h,Option.map_some,Al.sv,Al.bf]
theorem pD {D l:List Al} {i:Nat} (hD:D.length=i) (h:i<l.length) (y:Ex):
 (af (D++l.drop i)).set i (.agg (.int .i64 l[i].kind:: .str l[i].name:: .int .i64 l[i].n:: .list 1 (l[i].names.map .str)::(y.cells++List.drop 8 l[i].body.cells)))=af ((D++[.mk l[i].kind l[i].name l[i].n l[i].names y])++l.drop (i+1)):=by
 rw[Ex.ij,List.append_nil,bh,bh,← yR hD h,List.map_set];rfl
theorem pC {D l:List Al} {i:Nat} (hD:D.length=i) (h:i≤l.length):(af (D++l.drop i)).length=l.length:=by rw[dF,yQ hD h]
def sE (J:List Bd) (b:Ex) (i:Nat):Ex:=(J.drop i).foldr (fun j b=>letE b [j]) b
theorem Jo {J:List Bd} {b:Ex} {i:Nat} (h:i<J.length):sE J b i=letE (sE J b (i+1)) [J[i]]:=by
 unfold sE
 rw[List.drop_eq_getElem_cons h];rfl
theorem Ml (J:List Bd) (b:Ex):sE J b J.length=b:=by unfold sE;rw[List.drop_length];rfl
theorem Fo {α β:Type} {f:α→Nat→β×Nat} (hf:∀ x n,n≤(f x n).2):∀ (l:List α) (n:Nat),n≤(aG f l n).2
 |[],n=>Nat.le_refl _
 |x::r,n=>Nat.le_trans (hf x n) (Fo hf r _)
theorem oU (l:List Al) {i:Nat} (h:i<l.length):(af l)[i]? =some (.agg (.int .i64 l[i].kind:: .str l[i].name:: .int .i64 l[i].n:: .list 1 (l[i].names.map .str)::l[i].body.cells)):=by
 rw[bh,List.getElem?_map,List.getElem?_eq_getElem h,Option.map_some,Al.sv,Al.bf]
theorem Ck (G:Gl) (hG:ah G) (hit:yz G) (enm:aD) (ealts:List Al) (vnm:aD) (u:Ex) (valts:List Al) (h1:valts.length≠1) (hvb:valts.length<137438953472) (heb:ealts.length<137438953472) (n:Nat)
 (hea:∀ a∈ealts,a.names.length<137438953472∧a.body.wt<137438953472) (hnb:(eV (eE enm (vE vnm u valts) ealts) (vE vnm u valts) n).2<17592186044416) (H:List av) (sb g0:Nat) (hs:H[sb]? =some (NB g0 n)):
 aq Tryz.prog G 137 [.ptr sb g0 0 0,(eE enm (vE vnm u valts) ealts).sv,(vE vnm u valts).sv] H (fun r H'=>H'=H.set sb (NB g0 (eV (eE enm (vE vnm u valts) ealts) (vE vnm u valts) n).2)∧r=(eV (eE enm (vE vnm u valts) ealts) (vE vnm u valts) n).1.sv):=by
 obtain⟨Q,q0,qd,hQ,qc⟩:=Qk hs
 simp only[qd]
 have hcln:=fun H=>kF G hG valts H (by omega)
 have hau:=fun n=>bA n valts
 have heu:=fun n=>bA n ealts
 have hvl:=dF valts
 have hel:=dF ealts
 have hn1:¬ (valts.length:Int)=1:=by omega
 have hnest:eV (eE enm (vE vnm u valts) ealts) (vE vnm u valts) n=if valts.any (fun a=>!okB a.body)=true then (eE enm (vE vnm u valts) ealts,n)
  else ((BW (eE enm (vE vnm u valts) ealts) n).1.foldr (fun j b=>letE b [j]) (bE (vE vnm u valts) (BR (eE enm (vE vnm u valts) ealts) (vE vnm u valts) n).1),(BR (eE enm (vE vnm u valts) ealts) (vE vnm u valts) n).2):=by
  unfold eV
  rw[if_neg (show ¬ (vE vnm u valts).alts.length=1 from h1)]
  rfl
 rw[hnest] at hnb ⊢
 clear hnest
 rw[show(eE enm (vE vnm u valts) ealts).sv= .agg [.int .i64 6,.str enm,.int .i64 0,.int .i64 0,.list 1 [],.list 8 [.agg (vE vnm u valts).cells],.list 9 [],.list 12 (af ealts)] from rfl]
 rw[show(vE vnm u valts).sv= .agg [.int .i64 6,.str vnm,.int .i64 0,.int .i64 0,.list 1 [],.list 8 [.agg u.cells],.list 9 [],.list 12 (af valts)] from rfl]
 have hesv:(eE enm (vE vnm u valts) ealts).sv= .agg [.int .i64 6,.str enm,.int .i64 0,.int .i64 0,.list 1 [],.list 8 [.agg (vE vnm u valts).cells],.list 9 [],.list 12 (af ealts)]:=rfl
 have hvu:=fun n=>(vE vnm u valts).aw n
 generalize hxv:(vE vnm u valts).cells=xv at*
 have huu:=fun n=>u.aw n
 have hu8:=u.au
 have hut:=u.ao
 generalize hxu:u.cells=xu at*
 rw[← q0]
 refine bP [7,11,18] Tryz.func137 Tryz.ntmps137 fun C R' hR hC hcl hB hC' X=>?_
 have hC':=hC'.trans (hQ.len _)
 have hcls:∀ nx,closed (Q nx):=fun nx=>qc (q0 ▸ hcl) nx
 clear q0
 generalize hn0:H.length=n0 at*
 have hlenQ:=hQ.len
 have hsb:sb<n0:=hQ.lt
 have hxvu:=hvu n0
 have hxuu:=huu n0
 have hx20:=hQ.get
 have hx21:=hlenQ
 have hx22:∀ nx L,(Q nx++L)[n0]? =L[0]? :=fun nx L=>by rw[← hlenQ nx];exact bL _ _
 have hx23:∀ nx L k,(Q nx++L)[n0+k]? =L[k]? :=fun nx L k=>by rw[← hlenQ nx];exact aH _ _ _
 have hx24:∀ nx L x,(Q nx++L).set n0 x=Q nx++L.set 0 x:=fun nx L x=>by rw[← hlenQ nx];exact du _ _ _
 have hx25:∀ nx L k x,(Q nx++L).set (n0+k) x=Q nx++L.set k x:=fun nx L k x=>by rw[← hlenQ nx];exact bW _ _ _ _
 have X:=And.intro (eu aO hx20 hx21 hx22 hx23 hx24 hx25) hn1
 (refine run ?_)
 refine br (hcln _) ?_
 rintro r H' ⟨rfl,rfl⟩
 simp only[List.append_assoc,List.cons_append,List.nil_append,List.length_append,List.length_cons,List.length_nil,List.length_set,X,Nat.reduceAdd]
 (refine run ?_)
 refine aA (fun i:Nat=>[(0,.ptr sb g0 0 0),(4,.ptr n0 0 0 0),(5,.ptr (n0+1) 0 0 0),(6,.ptr (n0+2) 0 0 0),(7,.sl (n0+3) 0 0 valts.length),(43,.sl (n0+3) 0 0 valts.length),(44,.int .i64 valts.length),(45,.int .i64 (i:Int))]) (fun _=>Q n++[.cells 0 8 [.agg [.int .i64 6,.str enm,.int .i64 0,.int .i64 0,.list 1 [],.list 8 [.agg xv],.list 9 [],.list 12 (af ealts)]],.cells 0 8 [.agg [.int .i64 6,.str vnm,.int .i64 0,.int .i64 0,.list 1 [],.list 8 [.agg xu],.list 9 [],.list 12 (af valts)]],.cells 0 8 [.agg [.int .i64 0,.str [],.int .i64 0,.int .i64 0,.list 1 [],.list 8 [],.list 9 [],.list 12 []]],.cells 0 12 (af valts)]) (fun i=>valts.length - i) (fun i=>i≤valts.length∧∀ a∈valts.take i,okB a.body=true) 0 ⟨Nat.zero_le _,by simp⟩ ?_ ?_
 ·exact bI (n0:=n0) [(n0,0),(n0+1,0),(n0+2,0),(n0+3,0)] hG hB hC' (hcls _) (hn:=hlenQ _) (hd:=ra n0 [0,1,2,3] (by decide))
 rintro K i ⟨hi,hno⟩ hK
 rcases Nat.lt_or_ge i valts.length with hlt|hge
 ·have hg:=oU valts hlt
  have c2:=fun H=>lK G hG valts[i].body H
  have hmem:=List.getElem_mem hlt
  have hnx:okB valts[i].body=true→∀ a∈valts.take (i+1),okB a.body=true:=fun h a ha=>by
   rw[List.take_succ_eq_append_getElem hlt,List.mem_append,List.mem_singleton] at ha
   rcases ha with ha|rfl
   ·exact hno a ha
   ·exact h
  have hbad:okB valts[i].body=false→valts.any (fun a=>!okB a.body)=true:=fun h=>List.any_eq_true.2 ⟨_,hmem,by rw[h];rfl⟩
  generalize valts[i]=a at*
  obtain⟨ak,an,am,ans,ab⟩:=a
  simp only[Al.kind,Al.name,Al.n,Al.names,Al.body] at hg c2
  obtain⟨k2,n2,nn2,op2,ns2,ss2,bs2,as2⟩:=ab
  rw[show(Ex.mk k2 n2 nn2 op2 ns2 ss2 bs2 as2).sv= .agg [.int .i64 k2,.str n2,.int .i64 nn2,.int .i64 op2,.list 1 (ns2.map .str),.list 8 (ag ss2),.list 9 (ad bs2),.list 12 (af as2)] from rfl] at c2
  rw[show(Ex.mk k2 n2 nn2 op2 ns2 ss2 bs2 as2).cells=[.int .i64 k2,.str n2,.int .i64 nn2,.int .i64 op2,.list 1 (ns2.map .str),.list 8 (ag ss2),.list 9 (ad bs2),.list 12 (af as2)] from rfl] at hg
  by_cases hok:k2=2∨k2=7
  ·have hb1:okB (.mk k2 n2 nn2 op2 ns2 ss2 bs2 as2)=true:=by
    unfold okB;rcases hok with h|h<;>simp[Ex.kind,h]
   rcases hok with rfl|rfl
   all_goals
    have X:=fc (eu aO hx20 hx21 hx22 hx23 hx24 hx25) hvl hg
    (refine run ?_;with_reducible repeat' first|exact trivial|(apply aJ.mk<;>intro hb)|apply bN.mk)
    refine hK _ _ (i+1) (by omega) ⟨by omega,hnx hb1⟩ ?_
    ·exact bI (n0:=n0) [(n0,0),(n0+1,0),(n0+2,0),(n0+3,0)] hG hB hC' (hcls _) (hn:=hlenQ _) (hd:=ra n0 [0,1,2,3] (by decide))
  ·have k22:¬ k2=2:=fun h=>hok (.inl h)
   have k27:¬ k2=7:=fun h=>hok (.inr h)
   have hob:okB (.mk k2 n2 nn2 op2 ns2 ss2 bs2 as2)=cu (.mk k2 n2 nn2 op2 ns2 ss2 bs2 as2):=by
    unfold okB;simp[Ex.kind,k22,k27]
   cases hr:cu (.mk k2 n2 nn2 op2 ns2 ss2 bs2 as2) with
   |true=>
    rw[hr] at c2
    have X:=j8 (eu aO hx20 hx21 hx22 hx23 hx24 hx25) hvl k22 k27 hg
    (refine run ?_;with_reducible repeat' first|exact trivial|(apply aJ.mk<;>intro hb)|apply bN.mk)
    refine hK _ _ (i+1) (by omega) ⟨by omega,hnx (hob.trans hr)⟩ ?_
    ·exact bI (n0:=n0) [(n0,0),(n0+1,0),(n0+2,0),(n0+3,0)] hG hB hC' (hcls _) (hn:=hlenQ _) (hd:=ra n0 [0,1,2,3] (by decide))
   |false=>
    rw[hr] at c2
    have hany:=hbad (hob.trans hr)
    rw[hany] at hR
    simp only[if_true] at hR
    rw[hesv] at hR
    have X:=j8 (eu aO hx20 hx21 hx22 hx23 hx24 hx25) hvl k22 k27 hg
    (refine run ?_;with_reducible repeat' first|exact trivial|(apply aJ.mk<;>intro hb)|apply bN.mk)
    exact Fin.aS (n0:=n0) hR (hlenQ _) hC' (hcls _) (.same _ (by simp only[aC,SV.under,SV.aj,hxvu,heu,Bool.and_self])) ⟨rfl,rfl⟩
 obtain rfl:i=valts.length:=by omega
 clear hK
 rw[List.take_length] at hno
 have hany:valts.any (fun a=>!okB a.body)=false:=List.any_eq_false.2 fun a ha=>by rw[hno a ha];decide
 rw[hany] at hR hnb
 simp only[Bool.false_eq_true,if_false] at hR hnb
 have X:=fc (eu aO hx20 hx21 hx22 hx23 hx24 hx25) (Int.lt_irrefl (valts.length:Int)) hel
 (refine run ?_)
 have hjn:=uT enm ealts n
 have hins:(BW (eE enm (vE vnm u valts) ealts) n).2≤(BR (eE enm (vE vnm u valts) ealts) (vE vnm u valts) n).2:=(mT _ _ _ _).2
 rw[show(BW (eE enm (vE vnm u valts) ealts) n).2=n+2*ealts.length from hjn] at hins
 refine aA (fun a:Nat×List Bd×Nat=>[(0,.ptr sb g0 0 0),(4,.ptr n0 0 0 0),(5,.ptr (n0+1) 0 0 0),(6,.ptr (n0+2) 0 0 0),(7,.sl (n0+3) 0 0 valts.length),(11,.sl (n0+4) 0 0 a.1),(67,.list 12 (af ealts)),(68,.int .i64 ealts.length),(69,.int .i64 (a.1:Int))])
  (fun a=>Q a.2.2++[.cells 0 8 [.agg [.int .i64 6,.str enm,.int .i64 0,.int .i64 0,.list 1 [],.list 8 [.agg xv],.list 9 [],.list 12 (af ealts)]],.cells 0 8 [.agg [.int .i64 6,.str vnm,.int .i64 0,.int .i64 0,.list 1 [],.list 8 [.agg xu],.list 9 [],.list 12 (af valts)]],.cells 0 8 [.agg [.int .i64 0,.str [],.int .i64 0,.int .i64 0,.list 1 [],.list 8 [],.list 9 [],.list 12 []]],.cells 0 12 (af valts),.cells 0 9 (ad a.2.1)]) (fun a=>ealts.length - a.1)
  (fun a=>(a.1≤ealts.length∧a.2.1.length=a.1∧a.2.2=n+2*a.1)∧aG (fq enm) ealts n=(a.2.1++(aG (fq enm) (ealts.drop a.1) a.2.2).1,(aG (fq enm) (ealts.drop a.1) a.2.2).2)) (0,[],n) ⟨⟨Nat.zero_le _,rfl,rfl⟩,rfl⟩ ?_ ?_
 ·exact bI (n0:=n0) [(n0,0),(n0+1,0),(n0+2,0),(n0+3,0),(n0+4,0)] hG hB hC' (hcls _) (hn:=hlenQ _) (hd:=ra n0 [0,1,2,3,4] (by decide))
 rintro K ⟨i,J,nx⟩ ⟨⟨hi,hJ,hnx⟩,hmp⟩ hK
 dsimp only at hi hJ hnx hmp ⊢
 have hJl:(ad J).length=i:=by rw[az,List.length_map,hJ]
 rcases Nat.lt_or_ge i ealts.length with hlt|hge
 ·have hg:=oU ealts hlt
  obtain⟨hb1,hb2⟩:=hea _ (List.getElem_mem hlt)
  have hmp2:=u6 hlt hmp
  have hmem:=List.getElem_mem hlt
  generalize ealts[i]=a at hg hb1 hb2 hmp2
  obtain⟨ak,an,am,ans,ab⟩:=a
  have hjo:fq enm (.mk ak an am ans ab) nx=(.mk (cx nx) (df (ans++[cx (nx+1)]) (cS enm (cX (cx (nx+1))) ab)),nx+2):=rfl
  rw[hjo] at hmp2
  dsimp only[Al.kind,Al.name,Al.n,Al.names,Al.body] at hg hb1 hb2
  have c1:=fun H=>gz G hG ans H (by omega)
  have c2:=fun H=>gN G hG enm (cX (cx (nx+1))) ab.wt ab H (Nat.le_refl _) (by omega)
  have hx8:=ab.au
  have hxT:=ab.ao
  rw[show ab.sv= .agg ab.cells from rfl] at c2
  generalize ab.cells=xb at*
  have hnl:(ans.map SV.str).length=ans.length:=by simp
  have hrp:dK enm (cX (cx (nx+1))) ab.wt ab=cS enm (cX (cx (nx+1))) ab:=rfl
  rw[hrp] at c2
  have c3:=GA G hG (n0+6) 1 (ans.length+1) (cS enm (cX (cx (nx+1))) ab) (Q (nx+2)++[.cells 0 8 [.agg [.int .i64 6,.str enm,.int .i64 0,.int .i64 0,.list 1 [],.list 8 [.agg xv],.list 9 [],.list 12 (af ealts)]],.cells 0 8 [.agg [.int .i64 6,.str vnm,.int .i64 0,.int .i64 0,.list 1 [],.list 8 [.agg xu],.list 9 [],.list 12 (af valts)]],.cells 0 8 [.agg [.int .i64 0,.str [],.int .i64 0,.int .i64 0,.list 1 [],.list 8 [],.list 9 [],.list 12 []]],.cells 0 12 (af valts),.cells 0 9 (ad J),.cells 0 12 [.agg (.int .i64 ak:: .str an:: .int .i64 am:: .list 1 (ans.map .str)::xb)],.cells 1 1 (ans.map .str++[.str (cx (nx+1))])]) (by simp only[List.length_append,hlenQ,List.length_cons,List.length_nil];omega)
  have hr8:=(cS enm (cX (cx (nx+1))) ab).au
  have hrT:=(cS enm (cX (cx (nx+1))) ab).ao
  have hru:=(cS enm (cX (cx (nx+1))) ab).aw n0
  rw[show(cS enm (cX (cx (nx+1))) ab).sv= .agg (cS enm (cX (cx (nx+1))) ab).cells from rfl] at c2 c3
  have hlm:(df (ans++[cx (nx+1)]) (cS enm (cX (cx (nx+1))) ab)).cells=[.int .i64 3,.str [],.int .i64 0,.int .i64 0,.list 1 ((ans++[cx (nx+1)]).map .str),.list 8 [.agg (cS enm (cX (cx (nx+1))) ab).cells],.list 9 [],.list 12 []]:=rfl
  generalize hxr:(cS enm (cX (cx (nx+1))) ab).cells=xr at*
  have X:=FW (eu aO hx20 hx21 hx22 hx23 hx24 hx25) hel hg hx8 hxT hJl hr8 hrT
  (refine run ?_;with_reducible repeat' first|exact trivial|(apply aJ.mk<;>intro hb)|apply bN.mk)
  refine br (Qw G hG hit hQ nx (by omega) _) ?_
  rintro r H' ⟨rfl,rfl⟩
  (refine run ?_)
  refine br (Qw G hG hit hQ (nx+1) (by omega) _) ?_
  rintro r H' ⟨rfl,rfl⟩
  (refine run ?_)
  have hbj:ad (J++[.mk (cx nx) (df (ans++[cx (nx+1)]) (cS enm (cX (cx (nx+1))) ab))])=ad J++[.agg (.str (cx nx)::[.int .i64 3,.str [],.int .i64 0,.int .i64 0,.list 1 ((ans++[cx (nx+1)]).map .str),.list 8 [.agg xr],.list 9 [],.list 12 []])]:=by
   rw[← hlm]
   simp[az,Bd.sv,Bd.bf,Bd.name,Bd.e]
  refine hK _ _ (i+1,J++[.mk (cx nx) (df (ans++[cx (nx+1)]) (cS enm (cX (cx (nx+1))) ab))],nx+2) (by dsimp only;omega) ⟨⟨by dsimp only;omega,by simp only[List.length_append,List.length_cons,List.length_nil];omega,by dsimp only;omega⟩,hmp2⟩ ?_
  dsimp only
  have hsu:=bj n0 (ans++[cx (nx+1)])
  rw[hbj]
  refine bI (n0:=n0) [(n0,0),(n0+1,0),(n0+2,0),(n0+3,0),(n0+4,0)] hG hB hC' (hcls _) (hn:=hlenQ _) (hd:=ra n0 [0,1,2,3,4] (by decide)) (hk:=bH.c (by rw[hx22];rfl) (Nat.le_refl _) (Nat.zero_le _) (by exact gi) (bH.c (by rw[hx23];rfl) (by omega) (Nat.zero_le _) (by exact gi) (bH.c (by rw[hx23];rfl) (by omega) (Nat.zero_le _) (by exact gi) (bH.c (by rw[hx23];rfl) (by omega) (Nat.zero_le _) (b7.same (bA _ _)) (bH.c (by rw[hx23];rfl) (by omega) (Nat.zero_le _) ?_ .nil)))))
  refine b7.app (b7.same (aK _ _)) (.cons _ _ _ _ (.agg _ _ (.cons _ _ _ _ (.same _ rfl) (Gq 3 [] 0 0 (bF.sf (by rw[hx23];rfl) (by omega) (by simp) ?_ hsu) (.same _ (by simp only[SV.under,SV.aj,hru,Bool.and_self])) (.same _ rfl) (.same _ rfl)))) .nil)
  rw[List.drop_zero,List.take_of_length_le (by simp)]
  simp
 obtain rfl:i=ealts.length:=by omega
 clear hK
 rw[List.drop_length] at hmp
 simp only[aG,List.append_nil] at hmp
 have hje:BW (eE enm (vE vnm u valts) ealts) n=(J,nx):=hmp
 have hie:BR (eE enm (vE vnm u valts) ealts) (vE vnm u valts) n=aG (tj (J.map Bd.name) ealts) valts nx:=by
  unfold BR
  rw[hje];rfl
 rw[hje,hie] at hR
 rw[hie] at hnb hins
 clear hmp hins
 have hjs:(J.map Bd.name).length=ealts.length:=by rw[List.length_map];exact hJ
 have hkx:∀ a∈ealts,a.names.length<137438953472:=fun a ha=>(hea a ha).1
 generalize hnx1:nx=n1 at*
 have X:=fc (eu aO hx20 hx21 hx22 hx23 hx24 hx25) (Int.lt_irrefl (ealts.length:Int)) hvl
 (refine run ?_)
 refine aA (fun a:Nat×List Al×Nat=>[(0,.ptr sb g0 0 0),(4,.ptr n0 0 0 0),(5,.ptr (n0+1) 0 0 0),(6,.ptr (n0+2) 0 0 0),(7,.sl (n0+3) 0 0 valts.length),(11,.sl (n0+4) 0 0 ealts.length),(97,.sl (n0+3) 0 0 valts.length),(98,.int .i64 valts.length),(99,.int .i64 (a.1:Int))])
  (fun a=>Q a.2.2++[.cells 0 8 [.agg [.int .i64 6,.str enm,.int .i64 0,.int .i64 0,.list 1 [],.list 8 [.agg xv],.list 9 [],.list 12 (af ealts)]],.cells 0 8 [.agg [.int .i64 6,.str vnm,.int .i64 0,.int .i64 0,.list 1 [],.list 8 [.agg xu],.list 9 [],.list 12 (af valts)]],.cells 0 8 [.agg [.int .i64 0,.str [],.int .i64 0,.int .i64 0,.list 1 [],.list 8 [],.list 9 [],.list 12 []]],.cells 0 12 (af (a.2.1++valts.drop a.1)),.cells 0 9 (ad J)]) (fun a=>valts.length - a.1)
  (fun a=>(a.1≤valts.length∧a.2.1.length=a.1)∧aG (tj (J.map Bd.name) ealts) valts n1=(a.2.1++(aG (tj (J.map Bd.name) ealts) (valts.drop a.1) a.2.2).1,(aG (tj (J.map Bd.name) ealts) (valts.drop a.1) a.2.2).2)) (0,[],n1) ⟨⟨Nat.zero_le _,rfl⟩,rfl⟩ ?_ ?_
 ·simp only[List.nil_append,List.drop_zero]
  exact bI (n0:=n0) [(n0,0),(n0+1,0),(n0+2,0),(n0+3,0),(n0+4,0)] hG hB hC' (hcls _) (hn:=hlenQ _) (hd:=ra n0 [0,1,2,3,4] (by decide))
 rintro K ⟨i,D,nx⟩ ⟨⟨hi,hD⟩,hmp⟩ hK
 dsimp only at hi hD hmp ⊢
 rcases Nat.lt_or_ge i valts.length with hlt|hge
 ·have hbnd:(aG (fD (cx nx)) ((J.map Bd.name).zip ealts) (nx+1)).2<17592186044416:=by
   rw[hmp,List.drop_eq_getElem_cons hlt] at hnb
   have h1:(tj (J.map Bd.name) ealts valts[i] nx).2=(aG (fD (cx nx)) ((J.map Bd.name).zip ealts) (nx+1)).2:=rfl
   have h2:=(mT (J.map Bd.name) ealts (valts.drop (i+1)) (aG (fD (cx nx)) ((J.map Bd.name).zip ealts) (nx+1)).2).2
   have h3:(aG (tj (J.map Bd.name) ealts) (valts[i]::valts.drop (i+1)) nx).2=(aG (tj (J.map Bd.name) ealts) (valts.drop (i+1)) (tj (J.map Bd.name) ealts valts[i] nx).2).2:=rfl
   rw[h3,h1] at hnb
   omega
  have hnx1:nx+1≤(aG (fD (cx nx)) ((J.map Bd.name).zip ealts) (nx+1)).2:=(qK (c:=0) (K:=0) (cx nx) (J.map Bd.name) ealts (nx+1)).2.1
  have X:=And.intro (eu aO hx20 hx21 hx22 hx23 hx24 hx25) hvl
  (refine run ?_;with_reducible repeat' first|exact trivial|(apply aJ.mk<;>intro hb)|apply bN.mk)
  refine br (Qw G hG hit hQ nx (by omega) _) ?_
  rintro r H' ⟨rfl,rfl⟩
  (refine run ?_)
  refine aA (fun a:Nat×List Al×Nat=>[(0,.ptr sb g0 0 0),(4,.ptr n0 0 0 0),(5,.ptr (n0+1) 0 0 0),(6,.ptr (n0+2) 0 0 0),(7,.sl (n0+3) 0 0 valts.length),(11,.sl (n0+4) 0 0 ealts.length),(97,.sl (n0+3) 0 0 valts.length),(98,.int .i64 valts.length),(99,.int .i64 (i:Int)),(16,.int .i64 (i:Int)),(17,.str (cx nx)),(105,.list 12 (af ealts)),(106,.int .i64 ealts.length),(18,.sl (n0+5) 0 0 a.1),(107,.int .i64 (a.1:Int))])
   (fun a=>Q a.2.2++[.cells 0 8 [.agg [.int .i64 6,.str enm,.int .i64 0,.int .i64 0,.list 1 [],.list 8 [.agg xv],.list 9 [],.list 12 (af ealts)]],.cells 0 8 [.agg [.int .i64 6,.str vnm,.int .i64 0,.int .i64 0,.list 1 [],.list 8 [.agg xu],.list 9 [],.list 12 (af valts)]],.cells 0 8 [.agg [.int .i64 0,.str [],.int .i64 0,.int .i64 0,.list 1 [],.list 8 [],.list 9 [],.list 12 []]],.cells 0 12 (af (D++valts.drop i)),.cells 0 9 (ad J),.cells 0 12 (af a.2.1)]) (fun a=>ealts.length - a.1)
   (fun a=>(a.1≤ealts.length∧a.2.1.length=a.1)∧aG (fD (cx nx)) ((J.map Bd.name).zip ealts) (nx+1)=(a.2.1++(aG (fD (cx nx)) (((J.map Bd.name).zip ealts).drop a.1) a.2.2).1,(aG (fD (cx nx)) (((J.map Bd.name).zip ealts).drop a.1) a.2.2).2)) (0,[],nx+1) ⟨⟨Nat.zero_le _,rfl⟩,rfl⟩ ?_ ?_
  ·exact bI (n0:=n0) [(n0,0),(n0+1,0),(n0+2,0),(n0+3,0),(n0+4,0),(n0+5,0)] hG hB hC' (hcls _) (hn:=hlenQ _) (hd:=ra n0 [0,1,2,3,4,5] (by decide))
  rintro K2 ⟨k,O,ny⟩ ⟨⟨hk,hO⟩,hmp2⟩ hK2
  dsimp only at hk hO hmp2 ⊢
  have hOl:(af O).length=k:=by rw[dF,hO]
  rcases Nat.lt_or_ge k ealts.length with hltk|hgek
  ·have hzk:k<((J.map Bd.name).zip ealts).length:=by rw[List.length_zip,hjs];omega
   have hg:=oU ealts hltk
   have hb1:=hkx _ (List.getElem_mem hltk)
   have hmp3:=u6 hzk hmp2
   have hzg:((J.map Bd.name).zip ealts)[k]=(J[k].name,ealts[k]):=by rw[List.getElem_zip,List.getElem_map]
   rw[hzg] at hmp3
   have hJk:(ad J)[k]? =some (.agg (.str J[k].name::J[k].e.cells)):=by rw[az,List.getElem?_map,List.getElem?_eq_getElem (by omega),Option.map_some,Bd.sv,Bd.bf]
   have hjx8:=J[k].e.au
   generalize J[k].e.cells=xj at*
   generalize J[k].name=jn at*
   generalize ealts[k]=a at hg hb1 hmp3
   obtain⟨ak,an,am,ans,ab⟩:=a
   have hoo:fD (cx nx) (jn,.mk ak an am ans ab) ny=(.mk ak an am (jK ans.length ny) (c8 (cX jn) (bk (jK ans.length ny++[cx nx]))),ny+ans.length):=rfl
   rw[hoo] at hmp3
   dsimp only[Al.kind,Al.name,Al.n,Al.names,Al.body] at hg hb1
   have hx8:=ab.au
   have hxT:=ab.ao
   have hxu:=ab.aw n0
   generalize ab.cells=xb at*
   have hnl:(ans.map SV.str).length=ans.length:=by simp
   have hnyb:ny+ans.length≤(aG (fD (cx nx)) ((J.map Bd.name).zip ealts) (nx+1)).2:=by
    rw[hmp3]
    exact(Fo (fun p n=>by show n≤n+p.2.names.length;omega) _ _)
   have X:=oD (eu aO hx20 hx21 hx22 hx23 hx24 hx25) hel hg hx8 hxT hnl
   (refine run ?_;with_reducible repeat' first|exact trivial|(apply aJ.mk<;>intro hb)|apply bN.mk)
   have hsa:=bj n0 ans
   have hrep:List.replicate ans.length (SV.str [])=(jK 0 ny).map SV.str++List.replicate (ans.length - 0) (SV.str []):=rfl
   rw[hrep]
   refine aA (fun f:Nat=>[(0,.ptr sb g0 0 0),(4,.ptr n0 0 0 0),(5,.ptr (n0+1) 0 0 0),(6,.ptr (n0+2) 0 0 0),(7,.sl (n0+3) 0 0 valts.length),(11,.sl (n0+4) 0 0 ealts.length),(97,.sl (n0+3) 0 0 valts.length),(98,.int .i64 valts.length),(99,.int .i64 (i:Int)),(16,.int .i64 (i:Int)),(17,.str (cx nx)),(105,.list 12 (af ealts)),(106,.int .i64 ealts.length),(18,.sl (n0+5) 0 0 k),(107,.int .i64 (k:Int)),(19,.int .i64 (k:Int)),(20,.ptr (n0+6) 0 0 0),(21,.sl (n0+7) 0 0 ans.length),(116,.sl (n0+7) 0 0 ans.length),(117,.int .i64 (ans.length:Int)),(118,.int .i64 (f:Int))])
    (fun f=>Q (ny+f)++[.cells 0 8 [.agg [.int .i64 6,.str enm,.int .i64 0,.int .i64 0,.list 1 [],.list 8 [.agg xv],.list 9 [],.list 12 (af ealts)]],.cells 0 8 [.agg [.int .i64 6,.str vnm,.int .i64 0,.int .i64 0,.list 1 [],.list 8 [.agg xu],.list 9 [],.list 12 (af valts)]],.cells 0 8 [.agg [.int .i64 0,.str [],.int .i64 0,.int .i64 0,.list 1 [],.list 8 [],.list 9 [],.list 12 []]],.cells 0 12 (af (D++valts.drop i)),.cells 0 9 (ad J),.cells 0 12 (af O),.cells 0 12 [.agg (.int .i64 ak:: .str an:: .int .i64 am:: .list 1 (ans.map .str)::xb)],.cells 0 1 ((jK f ny).map SV.str++List.replicate (ans.length - f) (SV.str []))]) (fun f=>ans.length - f) (fun f=>f≤ans.length) 0 (Nat.zero_le _) ?_ ?_
   ·exact bI (n0:=n0) [(n0,0),(n0+1,0),(n0+2,0),(n0+3,0),(n0+4,0),(n0+5,0),(n0+6,0),(n0+7,0)] hG hB hC' (hcls _) (hn:=hlenQ _) (hd:=ra n0 [0,1,2,3,4,5,6,7] (by decide))
   rintro K3 f hf hK3
   have hfl:=Ix f ans.length ny hf
   rcases Nat.lt_or_ge f ans.length with hltf|hgef
   ·have hfg:=Iw f ans.length ny hltf
    have hfa:=LG f ans.length ny hltf
    have X:=iY (eu aO hx20 hx21 hx22 hx23 hx24 hx25) hfl hfa hfg
    (refine run ?_;with_reducible repeat' first|exact trivial|(apply aJ.mk<;>intro hb)|apply bN.mk)
    refine br (Qw G hG hit hQ (ny+f) (by omega) _) ?_
    rintro r H' ⟨rfl,rfl⟩
    (refine run ?_)
    refine hK3 _ _ (f+1) (by omega) (by omega) ?_
    exact bI (n0:=n0) [(n0,0),(n0+1,0),(n0+2,0),(n0+3,0),(n0+4,0),(n0+5,0),(n0+6,0),(n0+7,0)] hG hB hC' (hcls _) (hn:=hlenQ _) (hd:=ra n0 [0,1,2,3,4,5,6,7] (by decide))
   obtain rfl:f=ans.length:=by omega
   clear hK3
   rw[Nat.sub_self,List.replicate_zero,List.append_nil] at hfl ⊢
   have hsf:=bj n0 (jK ans.length ny)
   refine ke [(0,.ptr sb g0 0 0),(4,.ptr n0 0 0 0),(5,.ptr (n0+1) 0 0 0),(6,.ptr (n0+2) 0 0 0),(7,.sl (n0+3) 0 0 valts.length),(11,.sl (n0+4) 0 0 ealts.length),(97,.sl (n0+3) 0 0 valts.length),(98,.int .i64 valts.length),(99,.int .i64 (i:Int)),(16,.int .i64 (i:Int)),(17,.str (cx nx)),(105,.list 12 (af ealts)),(106,.int .i64 ealts.length),(18,.sl (n0+5) 0 0 k),(107,.int .i64 (k:Int)),(19,.int .i64 (k:Int)),(20,.ptr (n0+6) 0 0 0),(21,.list 1 ((jK ans.length ny).map .str)),(117,.int .i64 (ans.length:Int)),(118,.int .i64 (ans.length:Int))]
    (Q (ny+ans.length)++[.cells 0 8 [.agg [.int .i64 6,.str enm,.int .i64 0,.int .i64 0,.list 1 [],.list 8 [.agg xv],.list 9 [],.list 12 (af ealts)]],.cells 0 8 [.agg [.int .i64 6,.str vnm,.int .i64 0,.int .i64 0,.list 1 [],.list 8 [.agg xu],.list 9 [],.list 12 (af valts)]],.cells 0 8 [.agg [.int .i64 0,.str [],.int .i64 0,.int .i64 0,.list 1 [],.list 8 [],.list 9 [],.list 12 []]],.cells 0 12 (af (D++valts.drop i)),.cells 0 9 (ad J),.cells 0 12 (af O),.cells 0 12 [.agg (.int .i64 ak:: .str an:: .int .i64 am:: .list 1 (ans.map .str)::xb)]]) (bI (n0:=n0) [(n0,0),(n0+1,0),(n0+2,0),(n0+3,0),(n0+4,0),(n0+5,0),(n0+6,0)] hG hB hC' (hcls _) (hn:=hlenQ _) (hd:=ra n0 [0,1,2,3,4,5,6] (by decide)) (he:=by
     repeat' (first|exact True.intro|(refine And.intro ⟨_,rfl,?_⟩ ?_)|exact bF.sf (by rw[hx23];rfl) (by omega) (by simp) (by rw[List.drop_zero,List.take_of_length_le (by omega)]) hsf|exact kc))) ?_
   have hJl2:(ad J).length=ealts.length:=by rw[az,List.length_map,hJ]
   have hfml:((jK ans.length ny).map SV.str).length=ans.length:=by rw[List.length_map,eT]
   have hq1:(jK ans.length ny++[cx nx]).length=ans.length+1:=by rw[List.length_append,eT];rfl
   have hq2:(jK ans.length ny++[cx nx]).map SV.str=(jK ans.length ny).map SV.str++[.str (cx nx)]:=by simp
   have c3:=fun H=>kY G hG (bk (jK ans.length ny++[cx nx])) (cX jn) (by rw[bk,List.length_map,hq1];omega) H
   have hr8:=(c8 (cX jn) (bk (jK ans.length ny++[cx nx]))).au
   have hrT:=(c8 (cX jn) (bk (jK ans.length ny++[cx nx]))).ao
   have hru:=(c8 (cX jn) (bk (jK ans.length ny++[cx nx]))).aw n0
   rw[show(c8 (cX jn) (bk (jK ans.length ny++[cx nx]))).sv= .agg (c8 (cX jn) (bk (jK ans.length ny++[cx nx]))).cells from rfl,show(cX jn).sv= .agg [.int .i64 1,.str jn,.int .i64 0,.int .i64 0,.list 1 [],.list 8 [],.list 9 [],.list 12 []] from rfl] at c3
   generalize hxr:(c8 (cX jn) (bk (jK ans.length ny++[cx nx]))).cells=xr at*
   have hbd:List.drop 8 xb=[]:=List.drop_eq_nil_of_le (by rw[hx8];exact Nat.le_refl _)
   by_cases hc0:ans.length=0
   ·have hci:(ans.length:Int)=0:=by omega
    have c1:=fun H=>F6 G hG H
    have hfl0:jK ans.length ny=[]:=by rw[hc0];rfl
    rw[hfl0] at hxr c3 hmp3 ⊢
    have c2:=Cg G hG [cx nx] (by simp) (Q (ny+ans.length)++[.cells 0 8 [.agg [.int .i64 6,.str enm,.int .i64 0,.int .i64 0,.list 1 [],.list 8 [.agg xv],.list 9 [],.list 12 (af ealts)]],.cells 0 8 [.agg [.int .i64 6,.str vnm,.int .i64 0,.int .i64 0,.list 1 [],.list 8 [.agg xu],.list 9 [],.list 12 (af valts)]],.cells 0 8 [.agg [.int .i64 0,.str [],.int .i64 0,.int .i64 0,.list 1 [],.list 8 [],.list 9 [],.list 12 []]],.cells 0 12 (af (D++valts.drop i)),.cells 0 9 (ad J),.cells 0 12 (af O),.cells 0 12 [.agg (.int .i64 ak:: .str an:: .int .i64 am:: .nil::xb)],.cells 1 1 [.str (cx nx)]]) (n0+7) 1 (by rw[hx23];rfl)
    have X:=Lb (eu aO hx20 hx21 hx22 hx23 hx24 hx25) hci (Int.lt_irrefl (ans.length:Int)) hJk hJl2 hx8 hxT hr8 hrT hOl hbd
    (refine run ?_)
    have hmp4:=hmp3
    refine hK2 _ _ (k+1,O++[.mk ak an am [] (c8 (cX jn) (bk ([]++[cx nx])))],ny+ans.length) (by dsimp only;omega) ⟨⟨by dsimp only;omega,by simp only[List.length_append,List.length_cons,List.length_nil];omega⟩,hmp4⟩ ?_
    have hsn:=pE O ak an am [] (c8 (cX jn) (bk ([]++[cx nx])))
    rw[hxr] at hsn
    dsimp only
    rw[List.append_nil,hsn]
    refine bI (n0:=n0) [(n0,0),(n0+1,0),(n0+2,0),(n0+3,0),(n0+4,0),(n0+5,0)] hG hB hC' (hcls _) (hn:=hlenQ _) (hd:=ra n0 [0,1,2,3,4,5] (by decide)) (hk:=bH.c (by rw[hx22];rfl) (Nat.le_refl _) (Nat.zero_le _) (by exact gi) (bH.c (by rw[hx23];rfl) (by omega) (Nat.zero_le _) (by exact gi) (bH.c (by rw[hx23];rfl) (by omega) (Nat.zero_le _) (by exact gi) (bH.c (by rw[hx23];rfl) (by omega) (Nat.zero_le _) (b7.same (bA _ _)) (bH.c (by rw[hx23];rfl) (by omega) (Nat.zero_le _) (b7.same (aK _ _)) (bH.c (by rw[hx23];rfl) (by omega) (Nat.zero_le _) ?_ .nil))))))
    exact b7.app (b7.same (bA _ _)) (.cons _ _ _ _ (.agg _ _ (.cons _ _ _ _ (.same _ rfl) (.cons _ _ _ _ (.same _ rfl) (.cons _ _ _ _ (.same _ rfl) (.cons _ _ _ _ (.nil _) (b7.same hru)))))) .nil)
   ·have hci:¬ (ans.length:Int)=0:=by omega
    have c1:=fun H=>gz G hG (jK ans.length ny) H (by rw[eT];omega)
    simp only[eT] at c1
    have c2:=Cg G hG (jK ans.length ny++[cx nx]) (by rw[hq1];omega) (Q (ny+ans.length)++[.cells 0 8 [.agg [.int .i64 6,.str enm,.int .i64 0,.int .i64 0,.list 1 [],.list 8 [.agg xv],.list 9 [],.list 12 (af ealts)]],.cells 0 8 [.agg [.int .i64 6,.str vnm,.int .i64 0,.int .i64 0,.list 1 [],.list 8 [.agg xu],.list 9 [],.list 12 (af valts)]],.cells 0 8 [.agg [.int .i64 0,.str [],.int .i64 0,.int .i64 0,.list 1 [],.list 8 [],.list 9 [],.list 12 []]],.cells 0 12 (af (D++valts.drop i)),.cells 0 9 (ad J),.cells 0 12 (af O),.cells 0 12 [.agg (.int .i64 ak:: .str an:: .int .i64 am:: .list 1 ((jK ans.length ny).map .str)::xb)],.cells 1 1 ((jK ans.length ny).map SV.str++[.str (cx nx)])]) (n0+7) 1 (by rw[hx23,hq2];rfl)
    rw[hq1] at c2
    have X:=ND (eu aO hx20 hx21 hx22 hx23 hx24 hx25) hfml hci (Int.lt_irrefl (ans.length:Int)) hJk hJl2 hx8 hxT hr8 hrT hOl hbd
    (refine run ?_)
    refine hK2 _ _ (k+1,O++[.mk ak an am (jK ans.length ny) (c8 (cX jn) (bk (jK ans.length ny++[cx nx])))],ny+ans.length) (by dsimp only;omega) ⟨⟨by dsimp only;omega,by simp only[List.length_append,List.length_cons,List.length_nil];omega⟩,hmp3⟩ ?_
    have hsn:=pE O ak an am (jK ans.length ny) (c8 (cX jn) (bk (jK ans.length ny++[cx nx])))
    rw[hxr] at hsn
    dsimp only
    rw[List.append_nil,← hsn]
    exact bI (n0:=n0) [(n0,0),(n0+1,0),(n0+2,0),(n0+3,0),(n0+4,0),(n0+5,0)] hG hB hC' (hcls _) (hn:=hlenQ _) (hd:=ra n0 [0,1,2,3,4,5] (by decide))
  obtain rfl:k=ealts.length:=by omega
  clear hK2
  have hdz:((J.map Bd.name).zip ealts).drop ealts.length=[]:=List.drop_eq_nil_of_le (by rw[List.length_zip];omega)
  rw[hdz] at hmp2
  simp only[aG,List.append_nil] at hmp2
  have hOu:=bA n0 O
  refine ke [(0,.ptr sb g0 0 0),(4,.ptr n0 0 0 0),(5,.ptr (n0+1) 0 0 0),(6,.ptr (n0+2) 0 0 0),(7,.sl (n0+3) 0 0 valts.length),(11,.sl (n0+4) 0 0 ealts.length),(97,.sl (n0+3) 0 0 valts.length),(98,.int .i64 valts.length),(99,.int .i64 (i:Int)),(16,.int .i64 (i:Int)),(17,.str (cx nx)),(18,.list 12 (af O)),(106,.int .i64 ealts.length),(107,.int .i64 (ealts.length:Int))]
   (Q ny++[.cells 0 8 [.agg [.int .i64 6,.str enm,.int .i64 0,.int .i64 0,.list 1 [],.list 8 [.agg xv],.list 9 [],.list 12 (af ealts)]],.cells 0 8 [.agg [.int .i64 6,.str vnm,.int .i64 0,.int .i64 0,.list 1 [],.list 8 [.agg xu],.list 9 [],.list 12 (af valts)]],.cells 0 8 [.agg [.int .i64 0,.str [],.int .i64 0,.int .i64 0,.list 1 [],.list 8 [],.list 9 [],.list 12 []]],.cells 0 12 (af (D++valts.drop i)),.cells 0 9 (ad J)]) (bI (n0:=n0) [(n0,0),(n0+1,0),(n0+2,0),(n0+3,0),(n0+4,0)] hG hB hC' (hcls _) (hn:=hlenQ _) (hd:=ra n0 [0,1,2,3,4] (by decide)) (he:=by
    repeat' (first|exact True.intro|(refine And.intro ⟨_,rfl,?_⟩ ?_)|exact bF.sf (by rw[hx23];rfl) (by omega) (by simp) (by rw[List.drop_zero,List.take_of_length_le (by omega)]) hOu|exact kc))) ?_
  have hmp5:=u6 hlt hmp
  have hig:tj (J.map Bd.name) ealts valts[i] nx=(setBody valts[i] (.mk 6 (cx nx) 0 0 [] [valts[i].body] [] O),ny):=by unfold tj;rw[hmp2]
  rw[hig] at hmp5
  have hgi:=rY hD hlt
  have hst:=pD hD hlt (.mk 6 (cx nx) 0 0 [] [valts[i].body] [] O)
  have hlc:=pC hD (Nat.le_of_lt hlt)
  rw[show Al.mk valts[i].kind valts[i].name valts[i].n valts[i].names (.mk 6 (cx nx) 0 0 [] [valts[i].body] [] O)=setBody valts[i] (.mk 6 (cx nx) 0 0 [] [valts[i].body] [] O) by cases valts[i];rfl] at hst
  rw[show(Ex.mk 6 (cx nx) 0 0 [] [valts[i].body] [] O).cells=[.int .i64 6,.str (cx nx),.int .i64 0,.int .i64 0,.list 1 [],.list 8 [.agg valts[i].body.cells],.list 9 [],.list 12 (af O)] from rfl] at hst
  have hy8:=valts[i].body.au
  have hyT:=valts[i].body.ao
  generalize hsb':setBody valts[i] (.mk 6 (cx nx) 0 0 [] [valts[i].body] [] O)=b' at*
  generalize valts[i].body.cells=xy at*
  have X:=eu (eu aO hx20 hx21 hx22 hx23 hx24 hx25) (Int.lt_irrefl (ealts.length:Int)) hlc hgi hst hy8 hyT
  (refine run ?_)
  simp only[List.cons_append,List.nil_append] at hst
  rw[hst]
  refine hK _ _ (i+1,D++[b'],ny) (by dsimp only;omega) ⟨⟨by dsimp only;omega,by simp only[List.length_append,List.length_cons,List.length_nil];omega⟩,hmp5⟩ ?_
  simp only[List.append_assoc,List.cons_append,List.nil_append]
  exact bI (n0:=n0) [(n0,0),(n0+1,0),(n0+2,0),(n0+3,0),(n0+4,0)] hG hB hC' (hcls _) (hn:=hlenQ _) (hd:=ra n0 [0,1,2,3,4] (by decide))
 obtain rfl:i=valts.length:=by omega
 clear hK
 rw[List.drop_length] at hmp ⊢
 simp only[aG,List.append_nil] at hmp ⊢
 rw[hmp] at hR
 have hDl:(af D).length=valts.length:=by rw[dF,hD]
 have hDu:=bA n0 D
 have hJu:=aK n0 J
 have hJl3:(ad J).length=ealts.length:=by rw[az,List.length_map,hJ]
 refine ke [(0,.ptr sb g0 0 0),(4,.ptr n0 0 0 0),(5,.ptr (n0+1) 0 0 0),(6,.ptr (n0+2) 0 0 0),(7,.list 12 (af D)),(11,.list 9 (ad J)),(98,.int .i64 valts.length),(99,.int .i64 (valts.length:Int))]
  (Q nx++[.cells 0 8 [.agg [.int .i64 6,.str enm,.int .i64 0,.int .i64 0,.list 1 [],.list 8 [.agg xv],.list 9 [],.list 12 (af ealts)]],.cells 0 8 [.agg [.int .i64 6,.str vnm,.int .i64 0,.int .i64 0,.list 1 [],.list 8 [.agg xu],.list 9 [],.list 12 (af valts)]],.cells 0 8 [.agg [.int .i64 0,.str [],.int .i64 0,.int .i64 0,.list 1 [],.list 8 [],.list 9 [],.list 12 []]]]) (bI (n0:=n0) [(n0,0),(n0+1,0),(n0+2,0)] hG hB hC' (hcls _) (hn:=hlenQ _) (hd:=ra n0 [0,1,2] (by decide)) (he:=by
   repeat' (first|exact True.intro|(refine And.intro ⟨_,rfl,?_⟩ ?_)|exact bF.sf (by rw[hx23];rfl) (by omega) (by simp) (by rw[List.drop_zero,List.take_of_length_le (by omega)]) hDu|exact bF.sf (by rw[hx23];rfl) (by omega) (by simp) (by rw[List.drop_zero,List.take_of_length_le (by omega)]) hJu|exact kc))) ?_
 have c1:=fun H=>rZ G hG J H
 have hbase:(bE (vE vnm u valts) D).cells=[.int .i64 6,.str vnm,.int .i64 0,.int .i64 0,.list 1 [],.list 8 [.agg xu],.list 9 [],.list 12 (af D)]:=by rw[← hxu];rfl
 have hres:((J.foldr (fun j b=>letE b [j]) (bE (vE vnm u valts) D))=sE J (bE (vE vnm u valts) D) 0):=rfl
 rw[hres] at hR
 clear hres
 have h0:=Ml J (bE (vE vnm u valts) D)
 have hstep:=fun(i:Nat) (h:i<J.length)=>Jo (J:=J) (b:=bE (vE vnm u valts) D) h
 have X:=And.intro (eu aO hx20 hx21 hx22 hx23 hx24 hx25) (Int.lt_irrefl (valts.length:Int))
 (refine run ?_)
 refine fj iD (σ:=Nat) (ξ:=Nat×Bd) (fun i=>Q nx++[.cells 0 8 [.agg (sE J (bE (vE vnm u valts) D) i).cells],.cells 0 8 [.agg [.int .i64 0,.str [],.int .i64 0,.int .i64 0,.list 1 [],.list 8 [],.list 9 [],.list 12 []]]]) (n0+2) (fun s=>by simp[hlenQ]) J.length
  [(5,.ptr n0 0 0 0),(6,.ptr (n0+1) 0 0 0),(168,.fn (.func 163) [] [.gM (.list 9 (ad J))])] (fun x=>[.int .i64 x.1,.agg (.str x.2.name::x.2.e.cells)]) (fun s x=>s=x.1+1∧J[x.1]? =some x.2) (fun s x=>x.1) (fun s=>s=0)
  (fun x=>[(170,.agg (.str x.2.name::x.2.e.cells)),(169,.int .i64 x.1),(5,.ptr n0 0 0 0),(6,.ptr (n0+1) 0 0 0),(168,.fn (.func 163) [] [.gM (.list 9 (ad J))])]) rfl rfl (fun x=>rfl) (fun x=>rfl) ?_ ?_ ?_ ?_
 ·rw[h0,hbase]
  exact bI (n0:=n0) [(n0+1,0),(n0+2,0)] hG hB hC' (hcls _) (hn:=hlenQ _) (hd:=ra n0 [1,2] (by decide))
 ·intro G' LO hGl hLO hy
  have:=pH G' J (by omega) (n0+2) (fun i=>(Q nx++[.cells 0 8 [.agg (sE J (bE (vE vnm u valts) D) i).cells],.cells 0 8 [.agg [.int .i64 0,.str [],.int .i64 0,.int .i64 0,.list 1 [],.list 8 [],.list 9 [],.list 12 []]]])++[LO]) (fun i hi Y=>by
   have:=hy (i+1) (i,J[i]) Y ⟨rfl,List.getElem?_eq_getElem hi⟩
   simpa only[List.append_assoc,List.cons_append,List.nil_append] using this)
  exact this.mono fun r H' h=>⟨0,rfl,h⟩
 ·rintro G' C' ρ' s ⟨j,b⟩ Y LO LB K1 K hGl hB' hCH hcl' hLO hLB ⟨hs,hb⟩ hK1 hK
  subst hs
  dsimp only at hb
  have hj:j<J.length:=(List.getElem?_eq_some_iff.1 hb).1
  have hbe:J[j]=b:=(List.getElem?_eq_some_iff.1 hb).2
  have hst:=hstep j hj
  rw[hbe] at hst
  have hG':ah G':=by unfold ah;rw[hGl];exact hG
  have c1:=fun H=>dr G' hG' [b] (sE J (bE (vE vnm u valts) D) (j+1)) H
  rw[← hst] at c1
  obtain⟨bn,be⟩:=b
  rw[fe] at c1
  have hp8:=be.au
  have hpT:=be.ao
  have hq8:=(sE J (bE (vE vnm u valts) D) (j+1)).au
  have hqT:=(sE J (bE (vE vnm u valts) D) (j+1)).ao
  have hr8:=(sE J (bE (vE vnm u valts) D) j).au
  have hrT:=(sE J (bE (vE vnm u valts) D) j).ao
  have hru:=fun n=>(sE J (bE (vE vnm u valts) D) j).aw n
  rw[show(sE J (bE (vE vnm u valts) D) (j+1)).sv= .agg (sE J (bE (vE vnm u valts) D) (j+1)).cells from rfl,show(sE J (bE (vE vnm u valts) D) j).sv= .agg (sE J (bE (vE vnm u valts) D) j).cells from rfl] at c1
  dsimp only[Bd.name,Bd.e] at hK hK1 hCH hcl' ⊢
  simp only[List.append_assoc,List.cons_append,List.nil_append] at hcl' hCH hK ⊢
  generalize (sE J (bE (vE vnm u valts) D) (j+1)).cells=xq at*
  generalize (sE J (bE (vE vnm u valts) D) j).cells=xr at*
  generalize be.cells=xp at*
  have X:=fc (eu aO hx20 hx21 hx22 hx23 hx24 hx25) hp8 hpT
  (refine run ?_)
  refine hK1 _ _ (by rw[hx23];rfl) ?_
  rw[hx25]
  simp only[List.set_cons_succ,List.set_cons_zero]
  have X:=eu (eu aO hx20 hx21 hx22 hx23 hx24 hx25) hp8 hpT hq8 hqT hr8 hrT
  (refine run ?_)
  refine hK _ _ ?_
  rw[show ∀ (x1 x2 x3 x4:av),Q nx++x1::x2::x3::(Y++[x4])=(Q nx++x1::x2::x3::Y)++[x4] from fun _ _ _ _=>by simp]
  have hcl2:closed (Q nx++ .cells 0 8 [.agg xr]:: .cells 0 8 [.agg [.int .i64 0,.str [],.int .i64 0,.int .i64 0,.list 1 [],.list 8 [],.list 9 [],.list 12 []]]::LB::Y):=by
   refine mn hcl' (by simp) (fun q hq=>?_)
   simp only[List.mem_cons] at hq
   rcases hq with rfl|rfl|rfl|hq
   ·simp only[av.under,SV.aj,SV.under,hru,Bool.and_self]
   ·rfl
   ·exact av.pz (Nat.zero_le _) hLB
   ·have:=hcl' q (by simp[hq])
    simpa using this
  exact Wk.tell hG' (fun C0 h0=>by have:=hB' C0 h0;rw[hCH] at this;simpa using this) (by rw[hCH];simp) hcl2 trivial
 ·intro s LO hs hLO
  subst hs
  simp only[List.append_assoc,List.cons_append,List.nil_append]
  have hr8:=(sE J (bE (vE vnm u valts) D) 0).au
  have hrT:=(sE J (bE (vE vnm u valts) D) 0).ao
  have hru:=(sE J (bE (vE vnm u valts) D) 0).aw n0
  dsimp only at hR
  rw[show(sE J (bE (vE vnm u valts) D) 0).sv= .agg (sE J (bE (vE vnm u valts) D) 0).cells from rfl] at hR
  generalize (sE J (bE (vE vnm u valts) D) 0).cells=xr at*
  have X:=fc (eu aO hx20 hx21 hx22 hx23 hx24 hx25) hr8 hrT
  (refine run ?_)
  exact Fin.aS (n0:=n0) hR (hlenQ _) hC' (hcls _) (.same _ (by simp only[aC,SV.under,hru])) ⟨rfl,rfl⟩
theorem Lo (G:Gl) (hG:ah G) {cs:List Cn} {P:aD→Prop} {e:Ex} (h:Gd cs P e) (hk:e.kind=4) (hw:e.wt<137438953472) (H:List av):aq Tryz.prog G 94 [e.sv] H (fun r H'=>H'=H∧r=(tS e).sv):=by
 have hfo:=pV h hk
 have hful:=h.loc.wy
 unfold iH at hful
 have hlen:=hful.2.1 hk
 have hsub:=h.sub
 clear hful
 generalize e.ae=l at*
 subst hfo
 obtain⟨f,as',rfl⟩:∃ f as',l=f::as':=by
  cases l with
  |nil=>simp at hlen
  |cons x r=>exact⟨x,r,rfl⟩
 have hwt:(Ex.mk 4 [] 0 0 [] (f::as') [] []).wt=1+(f.wt+cn as'):=by simp[Ex.wt,cn,aV,cf]
 have hal:=iS as'
 have hgf:=hsub f (List.mem_cons_self ..)
 have hcd:tS (.mk 4 [] 0 0 [] (f::as') [] [])=if cu f=true then f
  else if f.kind=4 then .mk 4 [] 0 0 [] (f.ae++as') [] []
  else if f.kind=5 then letE (c8 (eH f.ae) as') f.binds
  else if f.kind=6∧f.alts.length=1 then bE f (f.alts.map fun a=>setBody a (c8 a.body as'))
  else if f.kind≠3 then .mk 4 [] 0 0 [] (f::as') [] []
  else tT f as':=rfl
 rw[hcd]
 clear hcd
 have c1:=fun H=>lK G hG f H
 have hasl:=bV as'
 have hasu:=bc H.length as'
 have hdr:List.take (as'.length+1 - 1) (ag as')=ag as':=by rw[Nat.add_sub_cancel];exact List.take_of_length_le (by rw[hasl];exact Nat.le_refl _)
 have hal0:0<as'.length:=by simpa using hlen
 have hmm:IntKind.i64.min≤(as'.length:Int)∧(as'.length:Int)≤IntKind.i64.max:=⟨by show(-9223372036854775808:Int)≤_;omega,by show _≤(9223372036854775807:Int);omega⟩
 have hasb:as'.length<137438953472:=by omega
 rw[yD,pR]
 have hfu:=f.aw H.length
 have hf8:=f.au
 have hft:=f.ao
 by_cases hr:cu f=true
 ·rw[if_pos hr]
  rw[hr] at c1
  rw[show f.sv= .agg f.cells from rfl] at*
  generalize f.cells=xf at*
  refine bP [] Tryz.func94 Tryz.ntmps94 fun C R' hR hC hcl hB hC' X=>?_
  have X:=j8 aO hf8 hft hdr hasl
  (refine run ?_)
  exact aZ (n0:=H.length) hR hC' hcl (.same _ (by simp only[aC,SV.under,SV.aj,hfu,Bool.and_self])) ⟨rfl,rfl⟩
 rw[if_neg hr]
 rw[show cu f=false by simpa using hr] at c1
 have hwf:=Ex.dn f.kind f.name f.n f.op f.names f.ae f.binds f.alts
 rw[show Ex.mk f.kind f.name f.n f.op f.names f.ae f.binds f.alts=f by cases f;rfl] at hwf
 by_cases h4:f.kind=4
 ·rw[if_pos h4]
  have hff:=pV hgf h4
  generalize f.ae=fs at*
  subst hff
  have c2:=fun H=>Dk G hG fs as' (by omega) (by omega) H
  have hcu:=bc H.length (fs++as')
  rw[show(Ex.mk 4 [] 0 0 [] fs [] []).cells=[.int .i64 4,.str [],.int .i64 0,.int .i64 0,.list 1 [],.list 8 (ag fs),.list 9 [],.list 12 []] from rfl] at*
  rw[show(Ex.mk 4 [] 0 0 [] fs [] []).sv= .agg [.int .i64 4,.str [],.int .i64 0,.int .i64 0,.list 1 [],.list 8 (ag fs),.list 9 [],.list 12 []] from rfl] at*
  rw[yD]
  generalize ag (fs++as')=xc at*
  generalize ag fs=xs at*
  refine bP [] Tryz.func94 Tryz.ntmps94 fun C R' hR hC hcl hB hC' X=>?_
  have X:=fc aO hasl hdr
  (refine run ?_)
  exact aZ (n0:=H.length) hR hC' hcl (.same _ (by simp only[aC,SV.under,SV.aj,hcu,Bool.and_self])) ⟨rfl,rfl⟩
 rw[if_neg h4]
 by_cases h5:f.kind=5
 ·rw[if_pos h5]
  have hff:=jj hgf h5
  generalize eH f.ae=y at*
  generalize f.binds=bs at*
  subst hff
  have c2:=fun H=>kY G hG as' y (by omega) H
  have c3:=fun H=>dr G hG bs (c8 y as') H
  have hru:=Ex.aw H.length (letE (c8 y as') bs)
  rw[show(letE (c8 y as') bs).sv= .agg (letE (c8 y as') bs).cells from rfl] at*
  rw[show(c8 y as').sv= .agg (c8 y as').cells from rfl] at*
  have hr8:=(letE (c8 y as') bs).au
  have hrT:=(letE (c8 y as') bs).ao
  generalize (letE (c8 y as') bs).cells=xr at*
  have ha8:=(c8 y as').au
  have haT:=(c8 y as').ao
  generalize (c8 y as').cells=xa at*
  rw[show(letE y bs).cells=[.int .i64 5,.str [],.int .i64 0,.int .i64 0,.list 1 [],.list 8 [.agg y.cells],.list 9 (ad bs),.list 12 []] from rfl] at*
  rw[show(letE y bs).sv= .agg [.int .i64 5,.str [],.int .i64 0,.int .i64 0,.list 1 [],.list 8 [.agg y.cells],.list 9 (ad bs),.list 12 []] from rfl] at*
  rw[show y.sv= .agg y.cells from rfl] at*
  have hy8:=y.au
  have hyt:=y.ao
  generalize y.cells=xy at*
  refine bP [] Tryz.func94 Tryz.ntmps94 fun C R' hR hC hcl hB hC' X=>?_
  have X:=C3 aO hasl hdr hy8 hyt hr8 hrT ha8 haT
  (refine run ?_)
  all_goals exact aZ (n0:=H.length) hR hC' hcl (.same _ (by simp only[aC,SV.under,hru])) ⟨rfl,rfl⟩
 rw[if_neg h5]
 by_cases h6:f.kind=6∧f.alts.length=1
 ·rw[if_pos h6]
  obtain⟨h6,h61⟩:=h6
  have hff:=eg hgf h6
  obtain⟨a,ha⟩:=List.length_eq_one_iff.1 h61
  generalize eH f.ae=y at*
  generalize f.name=fn at*
  rw[ha] at*
  clear ha h61
  subst hff
  obtain⟨ak,an,am,ans,ab⟩:=a
  have c2:=fun H=>kY G hG as' ab (by omega) H
  have c3:=fun H=>kF G hG [.mk ak an am ans ab] H (by simp)
  have hau:=Ex.aw H.length (c8 ab as')
  have hnu:=bj H.length ans
  have ha8:=(c8 ab as').au
  have haT:=(c8 ab as').ao
  rw[show bE (Ex.mk 6 fn 0 0 [] [y] [] [.mk ak an am ans ab]) (List.map (fun a=>setBody a (c8 a.body as')) [.mk ak an am ans ab])=Ex.mk 6 fn 0 0 [] [y] [] [.mk ak an am ans (c8 ab as')] from rfl]
  rw[show(Ex.mk 6 fn 0 0 [] [y] [] [.mk ak an am ans (c8 ab as')]).sv= .agg [.int .i64 6,.str fn,.int .i64 0,.int .i64 0,.list 1 [],.list 8 [.agg y.cells],.list 9 [],.list 12 (af [.mk ak an am ans (c8 ab as')])] from rfl]
  rw[show(Ex.mk 6 fn 0 0 [] [y] [] [.mk ak an am ans ab]).cells=[.int .i64 6,.str fn,.int .i64 0,.int .i64 0,.list 1 [],.list 8 [.agg y.cells],.list 9 [],.list 12 (af [.mk ak an am ans ab])] from rfl] at*
  rw[show(Ex.mk 6 fn 0 0 [] [y] [] [.mk ak an am ans ab]).sv= .agg [.int .i64 6,.str fn,.int .i64 0,.int .i64 0,.list 1 [],.list 8 [.agg y.cells],.list 9 [],.list 12 (af [.mk ak an am ans ab])] from rfl] at*
  simp only[ic] at*
  rw[show(c8 ab as').sv= .agg (c8 ab as').cells from rfl] at*
  generalize (c8 ab as').cells=xa at*
  have hy8:=y.au
  have hyt:=y.ao
  have hyu:=y.aw H.length
  generalize y.cells=xy at*
  rw[show ab.sv= .agg ab.cells from rfl] at c2
  have hb8:=ab.au
  have hbt:=ab.ao
  have hbd:List.drop 8 ab.cells=[]:=List.drop_eq_nil_of_le (by rw[hb8];exact Nat.le_refl _)
  generalize ab.cells=xb at*
  generalize ans.map SV.str=xn at*
  refine bP [] Tryz.func94 Tryz.ntmps94 fun C R' hR hC hcl hB hC' X=>?_
  have X:=C3 aO hasl hdr hy8 hyt ha8 haT hb8 hbt
  (refine run ?_)
  rw[hbd,List.append_nil]
  refine Fin.aS (n0:=H.length) hR rfl hC' hcl (.agg _ _ (Gq 6 fn 0 0 (.same _ rfl) (.same _ (by simp only[SV.under,SV.aj,hyu,Bool.and_self])) (.same _ rfl) (bF.sf (by rw[aH];rfl) (by omega) (by simp) (by rw[List.drop_zero,List.take_of_length_le (by simp)]) (by simp only[SV.under,SV.aj,hau,hnu,Bool.and_self])))) ⟨rfl,rfl⟩
 rw[if_neg h6]
 have hk6:¬ (f.kind=6∧(f.alts.length:Int)=1):=fun hh=>h6 ⟨hh.1,by omega⟩
 by_cases h3:f.kind=3
 rotate_left
 ·rw[if_pos h3]
  clear hwf
  obtain⟨kd,nm,nn,op,names,ae,binds,alts⟩:=f
  simp only[Ex.kind,Ex.alts] at h4 h5 hk6 h3
  have hal1:=dF alts
  rw[yD,pR]
  rw[show(Ex.mk kd nm nn op names ae binds alts).cells=[.int .i64 kd,.str nm,.int .i64 nn,.int .i64 op,.list 1 (names.map .str),.list 8 (ag ae),.list 9 (ad binds),.list 12 (af alts)] from rfl] at*
  rw[show(Ex.mk kd nm nn op names ae binds alts).sv= .agg [.int .i64 kd,.str nm,.int .i64 nn,.int .i64 op,.list 1 (names.map .str),.list 8 (ag ae),.list 9 (ad binds),.list 12 (af alts)] from rfl] at*
  by_cases k6:kd=6
  ·have hn1:¬ (alts.length:Int)=1:=fun h=>hk6 ⟨k6,h⟩
   subst k6
   refine bP [] Tryz.func94 Tryz.ntmps94 fun C R' hR hC hcl hB hC' X=>?_
   have X:=j8 aO hasl hdr hn1 hal1
   (refine run ?_)
   exact aZ (n0:=H.length) hR hC' hcl (.same _ (by simp only[aC,SV.under,SV.aj,hasu] at hfu ⊢;simp only[hfu,Bool.and_self])) ⟨rfl,rfl⟩
  ·refine bP [] Tryz.func94 Tryz.ntmps94 fun C R' hR hC hcl hB hC' X=>?_
   have X:=eu aO hasl hdr h4 h5 h3 k6
   (refine run ?_)
   exact aZ (n0:=H.length) hR hC' hcl (.same _ (by simp only[aC,SV.under,SV.aj,hasu] at hfu ⊢;simp only[hfu,Bool.and_self])) ⟨rfl,rfl⟩
 rw[if_neg (fun hh=>hh h3)]
 have hff:=uB hgf h3
 have hnl:f.names.length<137438953472:=by omega
 rw[hff]
 exact HS G hG f.names (eH f.ae) as' hnl hasb H
theorem qB (n:Int):(cI n).sv= .agg [.int .i64 2,.str [],.int .i64 n,.int .i64 0,.list 1 [],.list 8 [],.list 9 [],.list 12 []]:=rfl
theorem qL (op:Int) (l:List Ex):(c7 op l).sv= .agg [.int .i64 8,.str [],.int .i64 0,.int .i64 op,.list 1 [],.list 8 (ag l),.list 9 [],.list 12 []]:=rfl
theorem mB (x y:Ex):ag [x,y]=[.agg x.cells,.agg y.cells]:=by simp[aL,Ex.sv]
theorem Bw (G:Gl) (hG:ah G) (e:Ex) (H:List av):aq Tryz.prog G 127 [e.sv] H (fun r H'=>H'=H∧r= .bool (!decide (e.kind=2))):=by
 obtain⟨k2,n2,nn2,op2,ns2,ss2,bs2,as2⟩:=e
 simp only[Ex.kind]
 refine bP [] Tryz.func127 Tryz.ntmps127 fun C R' hR hC hcl hB hC' X=>?_
 by_cases hk:k2=2
 ·subst hk
  have X:=aO
  (refine run ?_)
  exact aZ (n0:=H.length) hR hC' hcl (.same _ rfl) ⟨rfl,rfl⟩
 ·have X:=And.intro aO hk
  (refine run ?_)
  exact aZ (n0:=H.length) hR hC' hcl (.same _ rfl) ⟨rfl,by simp[hk,pk,aC]⟩
theorem Iz (G:Gl) (hG:ah G) (b:Bool) (H:List av):aq Tryz.prog G 128 [.bool b] H (fun r H'=>H'=H∧r=(rU b).sv):=by
 cases b
 ·refine bP [] Tryz.func128 Tryz.ntmps128 fun C R' hR hC hcl hB hC' X=>?_
  have X:=aO
  (refine run ?_)
  exact aZ (n0:=H.length) hR hC' hcl (.same _ rfl) ⟨rfl,rfl⟩
 ·refine bP [] Tryz.func128 Tryz.ntmps128 fun C R' hR hC hcl hB hC' X=>?_
  have X:=aO
  (refine run ?_)
  exact aZ (n0:=H.length) hR hC' hcl (.same _ rfl) ⟨rfl,rfl⟩
theorem xw (G:Gl) (hG:ah G) (op:Int) (l:List Ex) (hl:l.length<1125899906842624) (h:8<op∨l.any (fun a=>!decide (a.kind=2))=true) (H:List av):aq Tryz.prog G 93 [(c7 op l).sv] H (fun r H'=>H'=H∧r=(c7 op l).sv):=by
 have c1:=fun H=>tL G hG (.fn (.func 127) [] []) (fun e=>!decide (e.kind=2)) l H hl (by simp[SV.under,SV.aj]) (fun e _=>aY.of (first:=[]) (args:=[e.sv]) (cap:=[]) (Bw G hG e H))
 rw[qL]
 have hu:=bc H.length l
 by_cases h8:8<op
 ·refine bP [] Tryz.func93 Tryz.ntmps93 fun C R' hR hC hcl hB hC' X=>?_
  have X:=And.intro aO h8
  (refine run ?_)
  exact aZ (n0:=H.length) hR hC' hcl (.same _ (by simp only[aC,SV.under,SV.aj,hu,Bool.and_self])) ⟨rfl,rfl⟩
 ·rw[h.resolve_left h8] at c1
  refine bP [] Tryz.func93 Tryz.ntmps93 fun C R' hR hC hcl hB hC' X=>?_
  have X:=And.intro aO h8
  (refine run ?_)
  exact aZ (n0:=H.length) hR hC' hcl (.same _ (by simp only[aC,SV.under,SV.aj,hu,Bool.and_self])) ⟨rfl,rfl⟩
theorem Gn (G:Gl) (hG:ah G) (op:Int) (x y:Ex) (h0:1≤op) (hx:x.kind=2) (hy:y.kind=2) (H:List av):aq Tryz.prog G 93 [(c7 op [x,y]).sv] H (fun r H'=>H'=H∧r=(fV (c7 op [x,y])).sv):=by
 have hany:[x,y].any (fun e=>!decide (e.kind=2))=false:=by simp[hx,hy]
 by_cases h8:8<op
 ·have hf:fV (c7 op [x,y])=c7 op [x,y]:=by unfold fV;rw[if_pos (.inl h8)]
  rw[hf]
  exact xw G hG op [x,y] (by simp) (.inl h8) H
 have c1:=fun H=>tL G hG (.fn (.func 127) [] []) (fun e=>!decide (e.kind=2)) [x,y] H (by simp) (by simp[SV.under,SV.aj]) (fun e _=>aY.of (first:=[]) (args:=[e.sv]) (cap:=[]) (Bw G hG e H))
 have v1:∀ (b:Bool) (H:List av),aY Tryz.prog G (.fn (.func 128) [] []) [.bool b] H (fun r H'=>H'=H∧r=(rU b).sv):=fun b H=>aY.of (first:=[]) (args:=[.bool b]) (cap:=[]) (Iz G hG b H)
 rw[hany] at c1
 have hf:fV (c7 op [x,y])=if op=1 then cI (yq (x.n+y.n)) else if op=2 then cI (yq (x.n - y.n)) else if op=3 then cI (yq (x.n*y.n))
  else if op=4∨op=5 then (if y.n=0 then c7 op [x,y] else if op=5 then cI (x.n.tmod y.n) else cI (yq (x.n.tdiv y.n)))
  else if op=6 then rU (decide (x.n=y.n)) else if op=7 then rU (decide (x.n<y.n)) else if op=8 then rU (decide (x.n≤y.n)) else cI 0:=by
  unfold fV
  rw[if_neg (by
   rintro (h|h)
   ·exact h8 h
   ·rw[show(c7 op [x,y]).ae=[x,y] from rfl,hany] at h;cases h)]
  rfl
 rw[hf]
 clear hf hany
 have hu:=bc H.length [x,y]
 rw[qL]
 rw[mB] at*
 obtain⟨k2,n2,nn2,op2,ns2,ss2,bs2,as2⟩:=x
 obtain⟨k3,n3,nn3,op3,ns3,ss3,bs3,as3⟩:=y
 simp only[Ex.kind] at hx hy
 subst hx hy
 simp only[Ex.n]
 rw[show(Ex.mk 2 n2 nn2 op2 ns2 ss2 bs2 as2).cells=[.int .i64 2,.str n2,.int .i64 nn2,.int .i64 op2,.list 1 (ns2.map .str),.list 8 (ag ss2),.list 9 (ad bs2),.list 12 (af as2)] from rfl] at*
 rw[show(Ex.mk 2 n3 nn3 op3 ns3 ss3 bs3 as3).cells=[.int .i64 2,.str n3,.int .i64 nn3,.int .i64 op3,.list 1 (ns3.map .str),.list 8 (ag ss3),.list 9 (ad bs3),.list 12 (af as3)] from rfl] at*
 unfold yq
 by_cases o1:op=1
 ·subst o1
  refine bP [] Tryz.func93 Tryz.ntmps93 fun C R' hR hC hcl hB hC' X=>?_
  simp only[if_true,qB] at hR
  have X:=aO
  (refine run ?_)
  exact aZ (n0:=H.length) hR hC' hcl (.same _ rfl) ⟨rfl,rfl⟩
 by_cases o2:op=2
 ·subst o2
  refine bP [] Tryz.func93 Tryz.ntmps93 fun C R' hR hC hcl hB hC' X=>?_
  simp only[eq_false o1,if_true,if_false,qB] at hR
  have X:=And.intro aO o1
  (refine run ?_)
  exact aZ (n0:=H.length) hR hC' hcl (.same _ rfl) ⟨rfl,rfl⟩
 by_cases o3:op=3
 ·subst o3
  refine bP [] Tryz.func93 Tryz.ntmps93 fun C R' hR hC hcl hB hC' X=>?_
  simp only[eq_false o1,eq_false o2,if_true,if_false,qB] at hR
  have X:=fc aO o1 o2
  (refine run ?_)
  exact aZ (n0:=H.length) hR hC' hcl (.same _ rfl) ⟨rfl,rfl⟩
 by_cases o45:op=4∨op=5
 ·by_cases hz:nn3=0
  ·subst hz
   rcases o45 with rfl|rfl
   ·refine bP [] Tryz.func93 Tryz.ntmps93 fun C R' hR hC hcl hB hC' X=>?_
    simp only[eq_false o1,eq_false o2,eq_false o3,if_true,if_false,true_or,or_true,qL,mB] at hR
    have X:=iY aO o1 o2 o3
    (refine run ?_)
    exact aZ (n0:=H.length) hR hC' hcl (.same _ (by simp only[aC,SV.under,SV.aj] at hu ⊢;simp only[hu,Bool.and_self])) ⟨rfl,rfl⟩
   ·refine bP [] Tryz.func93 Tryz.ntmps93 fun C R' hR hC hcl hB hC' X=>?_
    simp only[eq_false o1,eq_false o2,eq_false o3,if_true,if_false,true_or,or_true,qL,mB] at hR
    have X:=iY aO o1 o2 o3
    (refine run ?_)
    exact aZ (n0:=H.length) hR hC' hcl (.same _ (by simp only[aC,SV.under,SV.aj] at hu ⊢;simp only[hu,Bool.and_self])) ⟨rfl,rfl⟩
  by_cases o4:op=4
  ·subst o4
   refine bP [] Tryz.func93 Tryz.ntmps93 fun C R' hR hC hcl hB hC' X=>?_
   simp only[eq_false o1,eq_false o2,eq_false o3,eq_false hz,if_true,if_false,true_or,or_true,show ¬ (4:Int)=5 by decide,qB] at hR
   have X:=j8 aO o1 o2 o3 hz
   (refine run ?_)
   exact aZ (n0:=H.length) hR hC' hcl (.same _ rfl) ⟨rfl,rfl⟩
  ·obtain rfl:op=5:=by omega
   refine bP [] Tryz.func93 Tryz.ntmps93 fun C R' hR hC hcl hB hC' X=>?_
   simp only[eq_false o1,eq_false o2,eq_false o3,eq_false o4,eq_false hz,if_true,if_false,true_or,or_true,qB] at hR
   have X:=oD aO o1 o2 o3 o4 hz
   (refine run ?_)
   exact aZ (n0:=H.length) hR hC' hcl (.same _ rfl) ⟨rfl,rfl⟩
 have o4:¬ op=4:=fun h=>o45 (.inl h)
 have o5:¬ op=5:=fun h=>o45 (.inr h)
 have htu:=fun b:Bool=>Ex.gx H.length (rU b)
 by_cases o6:op=6
 ·subst o6
  refine bP [] Tryz.func93 Tryz.ntmps93 fun C R' hR hC hcl hB hC' X=>?_
  simp only[eq_false o1,eq_false o2,eq_false o3,eq_false o45,if_true,if_false] at hR
  have X:=oD aO o1 o2 o3 o4 o5
  (refine run ?_)
  exact aZ (n0:=H.length) hR hC' hcl (.same _ (htu _)) ⟨rfl,rfl⟩
 by_cases o7:op=7
 ·subst o7
  refine bP [] Tryz.func93 Tryz.ntmps93 fun C R' hR hC hcl hB hC' X=>?_
  simp only[eq_false o1,eq_false o2,eq_false o3,eq_false o45,eq_false o6,if_true,if_false] at hR
  have X:=eu aO o1 o2 o3 o4 o5 o6
  (refine run ?_)
  exact aZ (n0:=H.length) hR hC' hcl (.same _ (htu _)) ⟨rfl,rfl⟩
 obtain rfl:op=8:=by omega
 refine bP [] Tryz.func93 Tryz.ntmps93 fun C R' hR hC hcl hB hC' X=>?_
 simp only[eq_false o1,eq_false o2,eq_false o3,eq_false o45,eq_false o6,eq_false o7,if_true,if_false] at hR
 have X:=FW aO o1 o2 o3 o4 o5 o6 o7
 (refine run ?_)
 exact aZ (n0:=H.length) hR hC' hcl (.same _ (htu _)) ⟨rfl,rfl⟩
theorem Lg {op:Int} (h:0≤kZ op) (h8:¬ 8<op):1≤op∧kZ op=2:=by
 by_cases h1:1≤op∧op≤8
 ·exact⟨h1.1,by unfold kZ;rw[if_pos h1]⟩
 ·exfalso
  unfold kZ at h
  rw[if_neg h1,if_neg (by omega),if_neg (by omega)] at h
  omega
theorem Gm (G:Gl) (hG:ah G) {cs:List Cn} {P:aD→Prop} {e:Ex} (h:Gd cs P e) (hk:e.kind=8) (hl:e.ae.length<1125899906842624) (H:List av):aq Tryz.prog G 93 [e.sv] H (fun r H'=>H'=H∧r=(fV e).sv):=by
 have hf:=Gp h hk
 have hful:=h.loc.wy
 have hshp:=h.loc.Ap
 unfold iH at hful
 have hful:=hful.2.2.2.2 hk
 unfold jN at hshp
 have har:0≤kZ e.op:=by omega
 clear hshp h hk
 generalize e.op=op at*
 generalize e.ae=l at*
 subst hf
 by_cases hc:8<op∨l.any (fun a=>!decide (a.kind=2))=true
 ·have he:fV (c7 op l)=c7 op l:=by unfold fV;exact if_pos hc
  rw[he]
  exact xw G hG op l hl hc H
 ·have h8:¬ 8<op:=fun h=>hc (.inl h)
  have hal:l.any (fun a=>!decide (a.kind=2))=false:=by simpa using fun h=>hc (.inr h)
  obtain⟨ho,h2⟩:=Lg har h8
  rw[h2] at hful
  have hlen:l.length=2:=by omega
  match l,hlen with
  |[x,y],_=>
   simp only[List.any_cons,List.any_nil,Bool.or_false,Bool.or_eq_false_iff,Bool.not_eq_false'] at hal
   exact Gn G hG op x y ho (of_decide_eq_true hal.1) (of_decide_eq_true hal.2) H
theorem mh {l:List Al} {a:Al} (h:a∈l):a.names.length+a.body.wt<cf l+1:=by
 have:=dZ h
 obtain⟨k,s,n,ns,e⟩:=a
 simp only[Al.wt,Al.names,Al.body] at*
 omega
theorem GI (G:Gl) (hG:ah G) (hit:yz G) {cs:List Cn} {P:aD→Prop} (e v:Ex) (he:Gd cs P e) (hk6:e.kind=6) (hv:Gd cs P v) (hv6:v.kind=6) (hev:eH e.ae=v)
 (hw:e.wt<137438953472) (n:Nat) (hnb:(eV e v n).2<17592186044416) (H:List av) (sb g0:Nat) (hs:H[sb]? =some (NB g0 n)):
 aq Tryz.prog G 137 [.ptr sb g0 0 0,e.sv,v.sv] H (fun r H'=>H'=H.set sb (NB g0 (eV e v n).2)∧r=(eV e v n).1.sv):=by
 have hef:=eg he hk6
 have hvf:=eg hv hv6
 rw[hev] at hef
 generalize e.name=enm at*
 generalize e.alts=ealts at*
 generalize eH v.ae=u at*
 generalize v.name=vnm at*
 generalize v.alts=valts at*
 have hv0:v=vE vnm u valts:=hvf
 have he0:e=eE enm (vE vnm u valts) ealts:=by rw[hef,hv0];rfl
 subst hv0
 subst he0
 have hwe:(eE enm (vE vnm u valts) ealts).wt=1+(1+u.wt+cf valts)+cf ealts:=by
  simp only[eE,vE,Ex.wt,cn,aV,List.length_nil];omega
 have h1:=iQ valts
 have h2:=iQ ealts
 by_cases h:valts.length=1
 ·obtain⟨a,rfl⟩:=List.length_eq_one_iff.1 h
  have hn:eV (eE enm (vE vnm u [a]) ealts) (vE vnm u [a]) n=(bE (vE vnm u [a]) [setBody a (na (eE enm (vE vnm u [a]) ealts) a.body)],n):=by
   unfold eV
   rw[if_pos (show(vE vnm u [a]).alts.length=1 from rfl)]
   rfl
  rw[hn]
  have h3:=DV G hG enm ealts vnm u a sb g0 H
  rw[dM hs]
  exact h3
 ·exact Ck G hG hit enm ealts vnm u valts h (by omega) (by omega) n (fun a ha=>by have:=mh ha;omega) hnb H sb g0 hs
section
section
variable {cs:List Cn} {P:aD→Prop} {K N:Nat}
theorem B7:∀ l:List Al,(∀ a∈l,okB a.body=true)→l.length*K≤fw 1 K cV l
 |[],_=>by simp
 |a::r,h=>by
  have:=B7 r fun x hx=>h x (List.mem_cons_of_mem _ hx)
  have ho:cV a.body=true:=by simp[cV,h a (List.mem_cons_self ..)]
  simp only[fw,ho,if_true,List.length_cons,Nat.add_mul,Nat.one_mul]
  omega
theorem Kv (hK:2≤K):∀ l:List Al,2*l.length≤wD 1 K l
 |[]=>by simp
 |a::r=>by
  have:=Kv hK r
  simp only[wD,fw,if_true,List.length_cons,oL,eO] at this ⊢
  omega
theorem yJ {c K':Nat} (hPn:∀ i,i<N→P (cx i)) (hc:c≤1) {e v:Ex} (he:Gd cs P e) (hk6:e.kind=6) (hev:eH e.ae=v) {k:Kn} (hk:wc cs P k) (hK:2*(fk e.alts+1)≤K) (hK':2*(c*(fk e.alts+1))≤K') (n:Nat)
 (hN:mO 1 K v+wD 1 K e.alts+n≤N):
 Gd cs P (iG k e v n).1∧mO c K' (iG k e v n).1+c*(iG k e v n).2≤c+mO c K' v+wD c K' e.alts+c*n∧n≤(iG k e v n).2:=by
 have hup:=Nt (c:=c) (K:=K') e.alts
 have hef:=eg he hk6
 have hes:0<e.ae.length:=by rw[hef];simp[Ex.ae]
 have hv:Gd cs P v:=hev ▸ he.sub _ (iJ hes)
 have hme:mO c K' e=c+fw c K' cV e.alts+eO (wO c K') e.alts+mO c K' v:=by
  have:=nF (c:=c) (K:=K') he hk6 (eH e.ae)
  rw[← qJ he hk6,hev] at this
  exact this
 have hE:Gd cs P e∧mO c K' e+c*n≤c+mO c K' v+wD c K' e.alts+c*n∧n≤n:=⟨he,by omega,Nat.le_refl _⟩
 have hpm:=he.loc.pm hk6
 unfold iG
 split
 ·cases hx:l8 e.alts v with
  |none=>exact hE
  |some a=>
   obtain⟨ha,-⟩:=lf hx
   have hab:=he.alt a ha
   have hu:=vf (c:=c) (K:=K') ha
   refine⟨gF (by simp) hab fun x hx=>by rw[List.mem_singleton.1 hx];exact⟨hpm,hv⟩,?_,Nat.le_refl _⟩
   dsimp only
   rw[fR,Nat.mul_add,Nat.mul_one] at*
   simp only[List.length_cons,List.length_nil,dp,fS,Bd.e,mO] at*
   omega
 split
 ·rename_i h7
  cases hx:l8 e.alts v with
  |none=>exact hE
  |some a=>
   have h2:2*(c*fk e.alts)≤K':=by rw[Nat.mul_add] at hK';omega
   obtain⟨t1,t2⟩:=Kp (c:=c) (K:=K') h7 he hk6 hv hx h2
   exact⟨t1,by dsimp only;omega,Nat.le_refl _⟩
 split
 ·rename_i h1
  cases hkn:E6 k v.name with
  |none=>exact hE
  |some sh=>
   obtain⟨s1,s2⟩:=hk _ _ hkn
   dsimp only
   cases hx:l8 e.alts sh with
   |none=>exact hE
   |some a=>
    obtain⟨ha,-⟩:=lf hx
    have hab:=he.alt a ha
    have hu:=vf (c:=c) (K:=K') ha
    have hss:=vK s1 s2
    obtain⟨p1,p2⟩:=J4 (cs:=cs) (P:=P) (c:=c) (K:=K') (a.names.zip sh.ae) a.body hab fun p hp=>hss _ (List.of_mem_zip hp).2
    have hat:bU v=true:=by unfold bU;rw[decide_eq_true h1];rfl
    have h3:=qC c K' e.name hv hat p1
    exact⟨pX _ hv p1,by dsimp only;omega,Nat.le_refl _⟩
 split
 ·rename_i h5
  have hvf:=jj hv h5
  have hfl:=hv.loc.wy
  unfold iH at hfl
  have hfl:=hfl.2.2.1 h5
  rw[List.length_map] at hfl
  have hvs:0<v.ae.length:=by rw[hvf];simp[letE,Ex.ae]
  have hvh:=hv.sub _ (iJ hvs)
  have hvb:=hv.bind
  have hpb:=hv.loc.pb
  have hvm:mO c K' v=c+c*v.binds.length+dp (wO c K') v.binds+mO c K' (eH v.ae):=by
   have:=congrArg (mO c K') hvf
   rw[fR] at this
   exact this
  have h6:=nF (c:=c) (K:=K') he hk6 (eH v.ae)
  refine⟨gF hfl (ED he hk6 hvh) fun x hx=>⟨hpb _ (List.mem_map_of_mem hx),hvb x hx⟩,?_,Nat.le_refl _⟩
  dsimp only
  rw[fR,h6]
  omega
 split
 ·rename_i h6
  refine Mv hPn hc he hk6 hev hv h6 hK' n fun hok=>?_
  have h1:=B7 (K:=K) v.alts hok
  have h2:=Kv (K:=K) (by omega) e.alts
  have h3:=zK e.alts
  have h4:v.alts.length*(1+oL e.alts)≤v.alts.length*K:=Nat.mul_le_mul_left _ (by omega)
  have h5:fw 1 K cV v.alts≤mO 1 K v:=by
   obtain⟨kd,nm,nn,op,names,ae,binds,alts⟩:=v
   rw[fx]
   simp only[Ex.alts]
   omega
  omega
 split
 ·exact⟨hv,by dsimp only;omega,Nat.le_refl _⟩
 ·exact hE
def KC (K:Nat) (e:Ex):Prop:=eM (fun e=>decide (2*(fk e.alts+1)≤K)) e=true
theorem KC.part {e p:Ex} (h:KC K e) (hp:p∈e.parts):KC K p:=by
 unfold KC at h ⊢
 rw[dk,Bool.and_eq_true,List.all_eq_true] at h
 exact h.2 p hp
theorem KC.here {e:Ex} (h:KC K e):2*(fk e.alts+1)≤K:=by
 unfold KC at h
 rw[dk,Bool.and_eq_true] at h
 exact of_decide_eq_true h.1
def Rs (cs:List Cn) (P:aD→Prop) (K:Nat) (T:Ex×Nat) (e:Ex) (n:Nat):Prop:=Gd cs P T.1∧mO 1 K T.1+T.2≤mI 1 K e+n∧mO 0 0 T.1≤mI 0 0 e∧n≤T.2
def M1 (cs:List Cn) (P:aD→Prop) (K N m:Nat) (F:Ex→Kn→Nat→Ex×Nat):Prop:=∀ e k n,e.wt≤m→Gd cs P e→wc cs P k→KC K e→mI 1 K e+n≤N→Rs cs P K (F e k n) e n
theorem tn {m:Nat} {F:Ex→Kn→Nat→Ex×Nat} (hF:M1 cs P K N m F) {k:Kn} (hk:wc cs P k):∀ (l:List Ex) (n:Nat),(∀ x∈l,x.wt≤m∧Gd cs P x∧KC K x)→eF (wI 1 K) l+n≤N→
 (∀ y∈(aG (fun x n=>F x k n) l n).1,Gd cs P y)∧eF (wO 1 K) (aG (fun x n=>F x k n) l n).1+(aG (fun x n=>F x k n) l n).2≤eF (wI 1 K) l+n∧eF (wO 0 0) (aG (fun x n=>F x k n) l n).1≤eF (wI 0 0) l∧n≤(aG (fun x n=>F x k n) l n).2
 |[],n,_,_=>by simp[aG,eF]
 |x::r,n,h,hN=>by
  obtain⟨h1,h2,h3⟩:=h x (List.mem_cons_self ..)
  simp only[eF] at hN
  obtain⟨f1,f2,f3,f4⟩:=hF x k n h1 h2 hk h3 (by simp only[mI];omega)
  simp only[mO,mI] at f2 f3
  obtain⟨i1,i2,i3,i4⟩:=tn hF hk r (F x k n).2 (fun y hy=>h y (List.mem_cons_of_mem _ hy)) (by omega)
  simp only[aG,eF]
  refine⟨fun y hy=>?_,by omega,by omega,by omega⟩
  rcases List.mem_cons.1 hy with rfl|hy
  ·exact f1
  ·exact i1 y hy
theorem oa {m:Nat} {F:Ex→Kn→Nat→Ex×Nat} (hF:M1 cs P K N m F) {k:Kn} (hk:wc cs P k):∀ (l:List Bd) (n:Nat),(∀ x∈l,x.e.wt≤m∧Gd cs P x.e∧KC K x.e)→dp (wI 1 K) l+n≤N→
 (∀ y∈(aG (kW fun x n=>F x k n) l n).1,Gd cs P y.e)∧(aG (kW fun x n=>F x k n) l n).1.map Bd.name=l.map Bd.name∧dp (wO 1 K) (aG (kW fun x n=>F x k n) l n).1+(aG (kW fun x n=>F x k n) l n).2≤dp (wI 1 K) l+n∧dp (wO 0 0) (aG (kW fun x n=>F x k n) l n).1≤dp (wI 0 0) l∧n≤(aG (kW fun x n=>F x k n) l n).2
 |[],n,_,_=>by simp[aG,dp]
 | .mk xn xe::r,n,h,hN=>by
  obtain⟨h1,h2,h3⟩:=h (.mk xn xe) (List.mem_cons_self ..)
  simp only[dp,fS,Bd.e] at hN h1 h2 h3
  obtain⟨f1,f2,f3,f4⟩:=hF xe k n h1 h2 hk h3 (by simp only[mI];omega)
  simp only[mO,mI] at f2 f3
  have hb:kW (fun x n=>F x k n) (.mk xn xe) n=(.mk xn (F xe k n).1,(F xe k n).2):=rfl
  obtain⟨i1,i2,i3,i4,i5⟩:=oa hF hk r (F xe k n).2 (fun y hy=>h y (List.mem_cons_of_mem _ hy)) (by omega)
  simp only[aG,dp,fS,hb]
  refine⟨fun y hy=>?_,by rw[List.map_cons,List.map_cons,i2];rfl,?_,?_,by omega⟩
  ·rcases List.mem_cons.1 hy with rfl|hy
   ·exact f1
   ·exact i1 y hy
  ·simp only[Bd.e] at f2 ⊢;omega
  ·simp only[Bd.e] at f3 ⊢;omega
theorem tk {m:Nat} {F:Ex→Kn→Nat→Ex×Nat} (hF:M1 cs P K N m F) {k:Kn} {nm:aD} {v:Ex}:∀ (l:List Al) (n:Nat),(∀ x∈l,x.body.wt≤m∧Gd cs P x.body∧KC K x.body∧wc cs P (sR k nm v x))→eO (wI 1 K) l+n≤N→
 (∀ y∈(aG (cB F k nm v) l n).1,Gd cs P y.body)∧eO (wO 1 K) (aG (cB F k nm v) l n).1+(aG (cB F k nm v) l n).2≤eO (wI 1 K) l+n∧eO (wO 0 0) (aG (cB F k nm v) l n).1≤eO (wI 0 0) l∧n≤(aG (cB F k nm v) l n).2
 |[],n,_,_=>by simp[aG,eO]
 |x::r,n,h,hN=>by
  obtain⟨h1,h2,h3,h4⟩:=h x (List.mem_cons_self ..)
  simp only[eO,ko] at hN
  obtain⟨f1,f2,f3,f4⟩:=hF x.body (sR k nm v x) n h1 h2 h4 h3 (by simp only[mI];omega)
  simp only[mO,mI] at f2 f3
  have hb:cB F k nm v x n=(setBody x (F x.body (sR k nm v x) n).1,(F x.body (sR k nm v x) n).2):=rfl
  obtain⟨i1,i2,i3,i4⟩:=tk hF r (F x.body (sR k nm v x) n).2 (fun y hy=>h y (List.mem_cons_of_mem _ hy)) (by omega)
  simp only[aG,eO,ko,hb,dL]
  refine⟨fun y hy=>?_,by omega,by omega,by omega⟩
  rcases List.mem_cons.1 hy with rfl|hy
  ·rw[dL];exact f1
  ·exact i1 y hy
theorem zw {c K:Nat}:∀ l l':List Al,l.map oA=l'.map oA→fw c K (fun _=>true) l=fw c K (fun _=>true) l'∧oL l=oL l'∧fk l=fk l'
 |[],[],_=>⟨rfl,rfl,rfl⟩
 |[],_::_,h=>by simp at h
 |_::_,[],h=>by simp at h
 |a::r,b::t,h=>by
  simp only[List.map_cons,List.cons.injEq] at h
  obtain⟨i1,i2,i3⟩:=zw (c:=c) (K:=K) r t h.2
  have hn:a.names=b.names:=by rw[← kP a,h.1,kP]
  simp only[fw,oL,fk,i1,i2,i3,hn,and_self]
theorem B8 (c K:Nat) (k:Int) (s:aD) (n o:Int) (ns:List aD) (ae:List Ex) (binds:List Bd) (alts:List Al):
 mI c K (.mk k s n o ns ae binds alts)=c+ns.length+2*(c*binds.length)+(fw c K (fun _=>true) alts+oL alts)+eF (wI c K) ae+dp (wI c K) binds+eO (wI c K) alts:=by simp only[mI,Ce,wI,Ex.names,Ex.binds,Ex.alts]
theorem Ft (F:Ex→Kn→Nat→Ex×Nat) (k:Kn) (kd:Int) (nm:aD) (nn op:Int) (names:List aD) (ae:List Ex) (binds:List Bd) (alts:List Al) (n:Nat):Oy F k (.mk kd nm nn op names ae binds alts) n=
 if kd=3 then (if (eH ae).kind=3 then df (names++(eH ae).names) (eH (eH ae).ae) else .mk kd nm nn op names ae binds alts,n)
 else if kd=8 then (fV (.mk kd nm nn op names ae binds alts),n)
 else if kd=4 then (tS (.mk kd nm nn op names ae binds alts),n)
 else if kd=6 then iG k (.mk kd nm nn op names ae binds (aG (cB F k nm (eH ae)) alts n).1) (eH ae) (aG (cB F k nm (eH ae)) alts n).2
 else (.mk kd nm nn op names ae binds alts,n):=rfl
theorem FM (m:Nat) (k:Kn) (kd:Int) (nm:aD) (nn op:Int) (names:List aD) (ae:List Ex) (binds:List Bd) (alts:List Al) (n:Nat):en (m+1) (.mk kd nm nn op names ae binds alts) k n=
 if kd=5 then Jh (en m) k (.mk kd nm nn op names ae binds alts) (aG (kW fun x n=>en m x k n) binds n)
 else Oy (en m) k (.mk kd nm nn op names (aG (fun x n=>en m x k n) ae n).1 binds alts) (aG (fun x n=>en m x k n) ae n).2:=rfl
theorem Mj (F:Ex→Kn→Nat→Ex×Nat) (k:Kn) (kd:Int) (nm:aD) (nn op:Int) (names:List aD) (ae:List Ex) (binds:List Bd) (alts:List Al) (B:List Bd×Nat):Jh F k (.mk kd nm nn op names ae binds alts) B=(B4 B.1 (F (eH ae) (BZ k B.1) B.2).1,(F (eH ae) (BZ k B.1) B.2).2):=rfl
theorem Af (hPn:∀ i,i<N→P (cx i)) (ht:ew cs vT 0=true) (hf:ew cs o9 0=true):∀ m,M1 cs P K N m (en m)
 |0,e,k,n,h,_,_,_,_=>absurd e.bZ (by omega)
 |m+1,.mk kd nm nn op names ae binds alts,k,n,hm,hg,hk,hc,hN=>by
  have hF:=Af hPn ht hf m
  have hwp:∀ p∈(Ex.mk kd nm nn op names ae binds alts).parts,p.wt≤m:=fun p hp=>by have:=Ex.cm hp;omega
  have hcp:=fun p hp=>hc.part (p:=p) hp
  rw[Ex.ck] at hwp hcp
  obtain⟨g0,g1,g2,g3⟩:=(cO ..).1 hg
  obtain⟨q1,q2,q3,q4,q5,q6,q7,q8⟩:=fJ hg
  have hL:=fun(x:Ex) (hx:x∈ae)=>fc (hwp x (List.mem_append_left _ hx)) (g1 x hx) (hcp x (List.mem_append_left _ hx))
  have hB:=fun(x:Bd) (hx:x∈binds)=>fc (hwp x.e (List.mem_append_right _ (List.mem_append_left _ (List.mem_map_of_mem hx)))) (g2 x hx) (hcp x.e (List.mem_append_right _ (List.mem_append_left _ (List.mem_map_of_mem hx))))
  have hA:=fun(x:Al) (hx:x∈alts)=>fc (hwp x.body (List.mem_append_right _ (List.mem_append_right _ (List.mem_map_of_mem hx)))) (g3 x hx) (hcp x.body (List.mem_append_right _ (List.mem_append_right _ (List.mem_map_of_mem hx))))
  have hkap:=hc.here
  simp only[Ex.alts] at hkap
  rw[B8] at hN
  unfold Rs
  rw[B8,B8]
  rw[FM]
  by_cases h5:kd=5
  ·simp only[eq_true h5,if_true]
   subst h5
   obtain⟨s0,hs0⟩:∃ s0,ae=[s0]:=⟨_,q7 (by simp)⟩
   subst hs0
   obtain⟨b1,b2,b3,b4,b5⟩:=oa hF hk binds n hB (by simp only[eF] at hN;omega)
   have hful:=g0.wy
   unfold iH at hful
   have hbl:=hful.2.2.1 rfl
   rw[List.length_map] at hbl
   have hl:(aG (kW fun x n=>en m x k n) binds n).1.length=binds.length:=ek ..
   generalize aG (kW fun x n=>en m x k n) binds n=B at*
   obtain⟨t1,t2,t3⟩:=hL s0 (List.mem_singleton_self _)
   have hkb:=zo B.1 k hk b1
   obtain⟨f1,f2,f3,f4⟩:=hF s0 (BZ k B.1) B.2 t1 t2 hkb t3 (by simp only[eF,mI] at hN ⊢;omega)
   have hbs:∀ x∈B.1,P x.name∧Gd cs P x.e:=fun x hx=>⟨g0.pb _ (by rw[← b2];exact List.mem_map_of_mem hx),b1 x hx⟩
   rw[Mj]
   simp only[eH,List.headD_cons]
   have d1:=LR f1 hbs (by omega)
   have d2:=Fk (c:=1) (K:=K) f1 hbs (by omega)
   have d3:=Fk (c:=0) (K:=0) f1 hbs (by omega)
   rw[hl] at d2
   simp only[eF,mI,mO] at hN f2 f3 d2 d3 ⊢
   exact⟨d1,by omega,by omega,by omega⟩
  simp only[eq_false h5,if_false]
  have hbe:binds=[]:=by rcases q5 with h|h;exact absurd h h5;exact h
  subst hbe
  obtain⟨l1,l2,l3,l4⟩:=tn hF hk ae n hL (by omega)
  have hl:(aG (fun x n=>en m x k n) ae n).1.length=ae.length:=ek ..
  generalize aG (fun x n=>en m x k n) ae n=S at*
  obtain⟨S1,S2⟩:=S
  dsimp only at l1 l2 l3 l4 hl ⊢
  have he':Gd cs P (.mk kd nm nn op names S1 [] alts):=(cO ..).2 ⟨by rw[hl];exact g0,l1,by simp,g3⟩
  have hme:∀ c K,mO c K (.mk kd nm nn op names S1 [] alts)≤c+names.length+fw c K (fun _=>true) alts+eF (wO c K) S1+eO (wO c K) alts:=fun c K=>by
   have:=rG (c:=c) (K:=K) alts
   rw[fx];simp[dp];omega
  rw[Ft]
  by_cases h6:kd=6
  ·subst h6
   simp only[show ¬ (6:Int)=3 by decide,show ¬ (6:Int)=8 by decide,show ¬ (6:Int)=4 by decide,if_true,if_false]
   obtain⟨s0,rfl⟩:∃ s0,S1=[s0]:=List.length_eq_one_iff.1 (by rw[hl,q7 (by simp)];rfl)
   simp only[eH,List.headD_cons]
   have hgs:=l1 s0 (List.mem_singleton_self _)
   obtain⟨a1,a2,a3,a4⟩:=tk hF (k:=k) (nm:=nm) (v:=s0) alts S2 (fun x hx=>⟨(hA x hx).1,(hA x hx).2.1,(hA x hx).2.2,Jd (e:= .mk 6 nm nn op names [s0] [] alts) he' hx hk nm⟩) (by omega)
   have hh:(aG (cB (en m) k nm s0) alts S2).1.map oA=alts.map oA:=tp _ oA (fun a m=>jB a _) _ _
   generalize aG (cB (en m) k nm s0) alts S2=A at*
   obtain⟨w1,w2,w3⟩:=zw (c:=1) (K:=K) A.1 alts hh
   obtain⟨u1,-,-⟩:=zw (c:=0) (K:=0) A.1 alts hh
   have hge:Gd cs P (.mk 6 nm nn op names [s0] [] A.1):=by
    refine(cO ..).2 ⟨?_,by simpa using hgs,by simp,a1⟩
    have:=((cO ..).1 he').1
    exact this.xD hh
   have hu1:wD 1 K A.1=fw 1 K (fun _=>true) alts+oL alts+eO (wO 1 K) A.1:=by unfold wD;rw[w1,w2]
   have hu0:wD 0 0 A.1=fw 0 0 (fun _=>true) alts+oL alts+eO (wO 0 0) A.1:=by unfold wD;rw[u1,w2]
   simp only[eF,mO] at l2 l3
   have c1:=yJ (c:=1) (K:=K) (K':=K) (N:=N) hPn (Nat.le_refl _) (e:= .mk 6 nm nn op names [s0] [] A.1) hge rfl (v:=s0) rfl hk (by simp only[Ex.alts];omega) (by simp only[Ex.alts];omega) A.2 (by simp only[Ex.alts,hu1,mO];omega)
   have c0:=yJ (c:=0) (K:=K) (K':=0) (N:=N) hPn (by decide) (e:= .mk 6 nm nn op names [s0] [] A.1) hge rfl (v:=s0) rfl hk (by simp only[Ex.alts];omega) (by simp only[Ex.alts];omega) A.2 (by simp only[Ex.alts,hu1,mO];omega)
   simp only[Ex.alts,hu1,hu0,mO] at c1 c0 ⊢
   exact⟨c1.1,by omega,by omega,by omega⟩
  have hae:alts=[]:=by rcases q6 with h|h;exact absurd h h6;exact h
  subst hae
  have hK1:=hme 1 K
  have hK0:=hme 0 0
  by_cases h3:kd=3
  ·subst h3
   simp only[if_true]
   obtain⟨s0,rfl⟩:∃ s0,S1=[s0]:=List.length_eq_one_iff.1 (by rw[hl,q7 (by simp)];rfl)
   simp only[eH,List.headD_cons]
   have hgs:=l1 s0 (List.mem_singleton_self _)
   by_cases h3':s0.kind=3
   ·simp only[eq_true h3',if_true]
    have hsf:=uB hgs h3'
    have hss:0<s0.ae.length:=by rw[hsf];simp[df,Ex.ae]
    have hsh:=hgs.sub _ (iJ hss)
    have hpn:=hgs.loc.pn h3'
    have hful:=g0.wy
    unfold iH at hful
    have hnl:=hful.1 rfl
    have hsm:∀ c K,mO c K s0=c+s0.names.length+mO c K (eH s0.ae):=fun c K=>by
     have:=congrArg (mO c K) hsf
     rw[zy] at this
     exact this
    have r1:=hsm 1 K
    have r0:=hsm 0 0
    have hll:∀ c K,mO c K (df (names++s0.names) (eH s0.ae))=c+(names.length+s0.names.length)+mO c K (eH s0.ae):=fun c K=>by rw[zy,List.length_append]
    have y1:=hll 1 K
    have y0:=hll 0 0
    refine⟨DF (by rw[List.length_append];omega) (fun s hs=>?_) hsh,?_,?_,l4⟩
    ·rcases List.mem_append.1 hs with hs|hs
     ·exact g0.pn rfl s hs
     ·exact hpn s hs
    ·show mO 1 K (df (names++s0.names) (eH s0.ae))+S2≤_
     simp only[eF,mO] at*;omega
    ·show mO 0 0 (df (names++s0.names) (eH s0.ae))≤_
     simp only[eF,mO] at*;omega
   ·simp only[eq_false h3',if_false,fw,eO] at*
    exact⟨he',by omega,by omega,l4⟩
  simp only[eq_false h3,if_false]
  by_cases h8:kd=8
  ·simp only[eq_true h8,if_true]
   obtain⟨f1,f2⟩:=Bx (c:=1) (K:=K) he' ht hf
   obtain⟨-,f3⟩:=Bx (c:=0) (K:=0) he' ht hf
   simp only[fw,eO,dp,oL] at*
   exact⟨f1,by omega,by omega,l4⟩
  simp only[eq_false h8,if_false]
  by_cases h4:kd=4
  ·simp only[eq_true h4,if_true]
   obtain⟨f1,f2⟩:=AI (c:=1) (K:=K) (Nat.le_refl _) (e:= .mk kd nm nn op names S1 [] []) h4 he'
   obtain⟨-,f3⟩:=AI (c:=0) (K:=0) (by decide) (e:= .mk kd nm nn op names S1 [] []) h4 he'
   simp only[fw,eO,dp,oL] at*
   exact⟨f1,by omega,by omega,l4⟩
  simp only[eq_false h4,eq_false h6,if_false]
  simp only[fw,eO,dp,oL] at*
  exact⟨he',by omega,by omega,l4⟩
end
end
theorem xd {f:Ex→Ex}:∀ {l:List Ex},(∀ x∈l,(f x).wt≤x.wt)→cn (l.map f)≤cn l
 |[],_=>Nat.le_refl _
 |x::l,h=>by
  have h1:=h x (List.mem_cons_self ..)
  have h2:=xd (l:=l) fun y hy=>h y (List.mem_cons_of_mem _ hy)
  simp only[List.map_cons,cn]
  omega
theorem wP {f:Bd→Ex}:∀ {l:List Bd},(∀ x∈l,(f x).wt≤x.e.wt)→aV (l.map fun b=>Bd.mk b.name (f b))≤aV l
 |[],_=>Nat.le_refl _
 | .mk s e::l,h=>by
  have h1:=h _ (List.mem_cons_self ..)
  have h2:=wP (l:=l) fun y hy=>h y (List.mem_cons_of_mem _ hy)
  simp only[List.map_cons,aV,Bd.wt,Bd.e] at h1 h2 ⊢
  omega
theorem wK {f:Al→Ex}:∀ {l:List Al},(∀ x∈l,(f x).wt≤x.body.wt)→cf (l.map fun a=>Al.mk a.kind a.name a.n a.names (f a))≤cf l
 |[],_=>Nat.le_refl _
 | .mk k s n ns e::l,h=>by
  have h1:=h _ (List.mem_cons_self ..)
  have h2:=wK (l:=l) fun y hy=>h y (List.mem_cons_of_mem _ hy)
  simp only[List.map_cons,cf,Al.wt,Al.kind,Al.name,Al.n,Al.names,Al.body] at h1 h2 ⊢
  omega
theorem tw (s:aD) (r:Ex) (hr:r.wt≤1):∀ (m:Nat) (e:Ex),(dK s r m e).wt≤e.wt
 |0,e=>by rw[dK];exact Nat.le_refl _
 |m+1,.mk kd nm nn op names ae binds alts=>by
  rw[dK]
  split
  ·split
   ·have:=(Ex.mk kd nm nn op names ae binds alts).bZ;omega
   ·exact Nat.le_refl _
  ·have h1:cn (ae.map fun x=>if s∈cA kd names binds then x else dK s r m x)≤cn ae:=xd fun x _=>by
    split
    ·exact Nat.le_refl _
    ·exact tw s r hr m x
   have h2:aV (binds.map fun b=>Bd.mk b.name (if s∈cA kd names binds then b.e else dK s r m b.e))≤aV binds:=wP fun b _=>by
    split
    ·exact Nat.le_refl _
    ·exact tw s r hr m b.e
   have h3:cf (alts.map fun a=>Al.mk a.kind a.name a.n a.names (if s∈fz kd nm a.names then a.body else dK s r m a.body))≤cf alts:=wK fun a _=>by
    split
    ·exact Nat.le_refl _
    ·exact tw s r hr m a.body
   simp only[Ex.wt] at h1 h2 h3 ⊢
   omega
theorem Lh {cs:List Cn} {P:aD→Prop} {e:Ex} (h:Gd cs P e) (ha:bU e=true):e.wt≤1:=by
 obtain⟨kd,nm,nn,op,names,ae,binds,alts⟩:=e
 have hk:kd=1∨kd=2:=by
  unfold bU at ha
  rw[Bool.or_eq_true] at ha
  exact ha.imp of_decide_eq_true of_decide_eq_true
 obtain⟨-,-,-,f1,f2,f3,-,f4⟩:=fJ h
 obtain rfl:=f4 hk
 obtain rfl:names=[]:=by rcases f1 with f|f;(rcases hk with h|h<;>omega);exact f
 obtain rfl:binds=[]:=by rcases f2 with f|f;(rcases hk with h|h<;>omega);exact f
 obtain rfl:alts=[]:=by rcases f3 with f|f;(rcases hk with h|h<;>omega);exact f
 simp only[Ex.wt,cn,aV,cf,List.length_nil]
 omega
def ir (ps:List (aD×Ex)) (b:Ex) (i:Nat):Ex:=(ps.take i).foldl (fun b p=>cS p.1 p.2 b) b
theorem GM (ps:List (aD×Ex)) (b:Ex):ir ps b 0=b:=rfl
theorem xW {ps:List (aD×Ex)} {b:Ex} {i:Nat} (h:i<ps.length):ir ps b (i+1)=cS ps[i].1 ps[i].2 (ir ps b i):=by
 unfold ir
 rw[List.take_succ_eq_append_getElem h,List.foldl_append];rfl
theorem J2 (ps:List (aD×Ex)) (b:Ex):ir ps b ps.length=ps.foldl (fun b p=>cS p.1 p.2 b) b:=by unfold ir;rw[List.take_length]
theorem FE {ps:List (aD×Ex)} (h:∀ p∈ps,p.2.wt≤1) (b:Ex):∀ i,i≤ps.length→(ir ps b i).wt≤b.wt
 |0,_=>Nat.le_refl _
 |i+1,hi=>by
  rw[xW (by omega)]
  exact Nat.le_trans (tw _ _ (h _ (List.getElem_mem _)) _ _) (FE h b i (by omega))
section
def Fp {α β:Type} (f:α→Nat→β×Nat) (l:List α) (n i:Nat):List β:=(aG f (l.take i) n).1
def fC {α β:Type} (f:α→Nat→β×Nat) (l:List α) (n i:Nat):Nat:=(aG f (l.take i) n).2
theorem uZ {α β:Type} (f:α→Nat→β×Nat):∀ (a b:List α) (n:Nat),aG f (a++b) n=((aG f a n).1++(aG f b (aG f a n).2).1,(aG f b (aG f a n).2).2)
 |[],b,n=>rfl
 |x::a,b,n=>by simp only[List.cons_append,aG,uZ f a b]
section
variable {α β:Type} {f:α→Nat→β×Nat} {l:List α} {n i:Nat}
theorem qD:Fp f l n 0=[]∧fC f l n 0=n:=⟨rfl,rfl⟩
theorem tt (h:i<l.length):Fp f l n (i+1)=Fp f l n i++[(f l[i] (fC f l n i)).1]∧fC f l n (i+1)=(f l[i] (fC f l n i)).2:=by
 unfold Fp fC
 rw[List.take_succ_eq_append_getElem h,uZ]
 exact⟨rfl,rfl⟩
theorem DS (h:i≤l.length):(Fp f l n i).length=i:=by unfold Fp;rw[ek,List.length_take];omega
theorem ve:Fp f l n l.length=(aG f l n).1∧fC f l n l.length=(aG f l n).2:=by unfold Fp fC;rw[List.take_length];exact⟨rfl,rfl⟩
end
def M3 (G:Gl) (Q:Nat→List av) (sb g0:Nat) (x:Ex) (k:Kn) (n:Nat) (T:Ex×Nat):Prop:=
 ∀ (kv:SV) (L:List av),fy (Q n++L) kv k→aq Tryz.prog G 50 [.ptr sb g0 0 0,x.sv,kv] (Q n++L) (fun r H'=>H'=Q T.2++L∧r=T.1.sv)
theorem AN (G:Gl) (hG:ah G) (F:Ex→Kn→Nat→Ex×Nat) (enm:aD) (vk:Int) (vn:aD) (vnn vop:Int) (vns:List aD) (vss:List Ex) (vbs:List Bd) (vas:List Al) (v:Ex) (hv:v= .mk vk vn vnn vop vns vss vbs vas) (alts:List Al) (n:Nat) (k:Kn) (kv:SV)
 (hal:alts.length<137438953472) (hnm:∀ a∈alts,a.names.length<137438953472) (sb g0 n0:Nat) (Q:Nat→List av) (hQ:QH Q sb g0 n0) (hqc:closed (Q n)→∀ nx,closed (Q nx)) (hkn:∀ nx L,fy (Q nx++L) kv k)
 (hT:∀ (i:Nat) (h:i<alts.length),M3 G Q sb g0 alts[i].body (sR k enm v alts[i]) (fC (cB F k enm v) alts n i) (F alts[i].body (sR k enm v alts[i]) (fC (cB F k enm v) alts n i)))
 (hit:yz G) {cs:List Cn} {P:aD→Prop} (hk:wc cs P k) (hgE:Gd cs P (eE enm v (aG (cB F k enm v) alts n).1)) (hwt:(eE enm v (aG (cB F k enm v) alts n).1).wt<137438953472)
 (hnb:(iG k (eE enm v (aG (cB F k enm v) alts n).1) v (aG (cB F k enm v) alts n).2).2<17592186044416):
 aq Tryz.prog G 95 [.ptr sb g0 0 0,.agg [.int .i64 6,.str enm,.int .i64 0,.int .i64 0,.list 1 [],.list 8 [.agg [.int .i64 vk,.str vn,.int .i64 vnn,.int .i64 vop,.list 1 (vns.map .str),.list 8 (ag vss),.list 9 (ad vbs),.list 12 (af vas)]],.list 9 [],.list 12 (af alts)],kv] (Q n) (fun r H'=>H'=Q (iG k (eE enm v (aG (cB F k enm v) alts n).1) v (aG (cB F k enm v) alts n).2).2∧r=(iG k (eE enm v (aG (cB F k enm v) alts n).1) v (aG (cB F k enm v) alts n).2).1.sv):=by
 have hcln:=fun H=>kF G hG alts H (by omega)
 have hel:=dF alts
 have hkf:=(hkn n []).form
 rw[List.append_nil,hQ.len] at hkf
 have hku:kv.under n0=true:=by
  rcases hkf with rfl|⟨b,rfl,hb⟩
  ·rfl
  ·simp only[SV.under,decide_eq_true_eq];exact hb
 have hvk:v.kind=vk:=by rw[hv];rfl
 have hvn:v.name=vn:=by rw[hv];rfl
 have hqn:=hQ.len n
 generalize hHH:Q n=H at*
 refine bP [] Tryz.func95 Tryz.ntmps95 fun C R' hR hC hcl hB hC' X=>?_
 have hcls:=hqc hcl
 subst hHH
 rw[hqn] at hC'
 have hlenQ:=hQ.len
 have hsb:sb<n0:=hQ.lt
 have kf:∀ {nx:Nat} (L:List av),kv= .bt∨∃ b,kv= .ptr b 0 0 0∧b<(Q nx++L).length:=fun {nx} L=>(hkn nx L).form
 have hx20:=hQ.get
 have hx21:=hlenQ
 have hx22:∀ nx L,(Q nx++L)[n0]? =L[0]? :=fun nx L=>by rw[← hlenQ nx];exact bL _ _
 have hx23:∀ nx L k,(Q nx++L)[n0+k]? =L[k]? :=fun nx L k=>by rw[← hlenQ nx];exact aH _ _ _
 have hx24:∀ nx L x,(Q nx++L).set n0 x=Q nx++L.set 0 x:=fun nx L x=>by rw[← hlenQ nx];exact du _ _ _
 have hx25:∀ nx L k x,(Q nx++L).set (n0+k) x=Q nx++L.set k x:=fun nx L k x=>by rw[← hlenQ nx];exact bW _ _ _ _
 have hvu1:=bc n0 vss
 have X:=eu aO hx20 hx21 hx22 hx23 hx24 hx25
 (refine run ?_)
 refine br (hcln _) ?_
 rintro r H' ⟨rfl,rfl⟩
 simp only[List.append_assoc,List.cons_append,List.nil_append,List.length_append,List.length_cons,List.length_nil,List.length_set,X,Nat.reduceAdd]
 (refine run ?_)
 refine aA (fun i:Nat=>[(0,.ptr sb g0 0 0),(4,.ptr n0 0 0 0),(6,.ptr (n0+1) 0 0 0),(7,.ptr (n0+2) 0 0 0),(2,kv),(30,.int .i64 alts.length),(31,.int .i64 (i:Int))]) (fun i=>Q (fC (cB F k enm v) alts n i)++[.cells 0 8 [.agg [.int .i64 6,.str enm,.int .i64 0,.int .i64 0,.list 1 [],.list 8 [.agg [.int .i64 vk,.str vn,.int .i64 vnn,.int .i64 vop,.list 1 (vns.map .str),.list 8 (ag vss),.list 9 (ad vbs),.list 12 (af vas)]],.list 9 [],.sl (n0+3) 0 0 alts.length]],.cells 0 8 [.agg [.int .i64 0,.str [],.int .i64 0,.int .i64 0,.list 1 [],.list 8 [],.list 9 [],.list 12 []]],.cells 0 8 [.agg [.int .i64 vk,.str vn,.int .i64 vnn,.int .i64 vop,.list 1 (vns.map .str),.list 8 (ag vss),.list 9 (ad vbs),.list 12 (af vas)]],.cells 0 12 (af (Fp (cB F k enm v) alts n i++alts.drop i))]) (fun i=>alts.length - i) (fun i=>i≤alts.length) 0 (Nat.zero_le _) ?_ ?_
 ·rw[qD.1,qD.2,List.nil_append,List.drop_zero]
  exact bI (n0:=n0) [(n0,0),(n0+1,0),(n0+2,0),(n0+3,0)] hG hB hC' (hcls _) (hn:=hlenQ _) (hd:=ra n0 [0,1,2,3] (by decide))
 rintro K i hi hK
 have hDl:=DS (f:=cB F k enm v) (n:=n) hi
 have hlc:=pC hDl hi
 rcases Nat.lt_or_ge i alts.length with hlt|hge
 ·have hgi:=rY hDl hlt
  obtain⟨hsD,hsN⟩:=tt (f:=cB F k enm v) (n:=n) hlt
  have hTi:=hT i hlt
  unfold M3 at hTi
  have hst:=pD hDl hlt (F alts[i].body (sR k enm v alts[i]) (fC (cB F k enm v) alts n i)).1
  have hb1:=hnm _ (List.getElem_mem hlt)
  have hsT:(cB F k enm v alts[i] (fC (cB F k enm v) alts n i)).1= .mk alts[i].kind alts[i].name alts[i].n alts[i].names (F alts[i].body (sR k enm v alts[i]) (fC (cB F k enm v) alts n i)).1:=by
   unfold cB setBody
   cases alts[i];rfl
  have hsT2:(cB F k enm v alts[i] (fC (cB F k enm v) alts n i)).2=(F alts[i].body (sR k enm v alts[i]) (fC (cB F k enm v) alts n i)).2:=rfl
  rw[hsT2] at hsN
  have hr8:=(F alts[i].body (sR k enm v alts[i]) (fC (cB F k enm v) alts n i)).1.au
  have hrT:=(F alts[i].body (sR k enm v alts[i]) (fC (cB F k enm v) alts n i)).1.ao
  rw[show(F alts[i].body (sR k enm v alts[i]) (fC (cB F k enm v) alts n i)).1.sv= .agg (F alts[i].body (sR k enm v alts[i]) (fC (cB F k enm v) alts n i)).1.cells from rfl] at hTi
  generalize hRR:F alts[i].body (sR k enm v alts[i]) (fC (cB F k enm v) alts n i)=RR at*
  obtain⟨R1,nx3⟩:=RR
  dsimp only at hst hsT hsN hr8 hrT hTi
  generalize hA0:alts[i]=a at*
  obtain⟨ak,an,am,ans,ab⟩:=a
  dsimp only[Al.kind,Al.name,Al.n,Al.names,Al.body] at hgi hst hsT hb1 hTi
  have hx8:=ab.au
  have hxT:=ab.ao
  rw[show ab.sv= .agg ab.cells from rfl] at hTi
  generalize ab.cells=xb at*
  generalize hxr:R1.cells=xr at*
  clear hRR hA0 hsT2
  by_cases h3:ak=3
  ·have hka:sR k enm v (.mk ak an am ans ab)=k:=if_pos h3
   rw[hka] at hTi
   have X:=eu (eu aO hx20 hx21 hx22 hx23 hx24 hx25) hlc hgi hx8 hxT h3 (show ¬ ak=1 by omega)
   (refine run ?_;with_reducible repeat' first|exact trivial|(apply aJ.mk<;>intro hb)|apply bN.mk)
   refine br (hTi (kv) _ (hkn _ _)) ?_
   rintro r H' ⟨rfl,rfl⟩
   have X:=oD (eu aO hx20 hx21 hx22 hx23 hx24 hx25) hlc hgi hst hr8 hrT
   (refine run ?_)
   refine hK _ _ (i+1) (by omega) (by omega) ?_
   rw[hsD,hsN,hsT]
   simp only[List.append_assoc,List.cons_append,List.nil_append]
   exact bI (n0:=n0) [(n0,0),(n0+1,0),(n0+2,0),(n0+3,0)] hG hB hC' (hcls _) (hn:=hlenQ _) (hd:=ra n0 [0,1,2,3] (by decide))
  by_cases h1:ak=1
  ·have hka:sR k enm v (.mk ak an am ans ab)=if v.kind=1 then (v.name,qS (.mk ak an am ans ab))::(enm,qS (.mk ak an am ans ab))::k else (enm,qS (.mk ak an am ans ab))::k:=if_neg h3
   rw[hvk,hvn,show qS (.mk ak an am ans ab)=ed an (bk ans) from if_pos h1] at hka
   have c1:=fun H=>Cf G hG ans (by omega) H
   have X:=j8 (eu aO hx20 hx21 hx22 hx23 hx24 hx25) hlc hgi h1 h3
   (refine run ?_;with_reducible repeat' first|exact trivial|(apply aJ.mk<;>intro hb)|apply bN.mk)
   refine br (ot G hG kv enm (ed an (bk ans)) _ (kf _)) ?_
   rintro r H' ⟨rfl,rfl⟩
   simp only[List.append_assoc,List.cons_append,List.nil_append,List.length_append,List.length_cons,List.length_nil,List.length_set,X,Nat.reduceAdd]
   by_cases hv1:vk=1
   ·subst hv1
    have X:=j8 (eu aO hx20 hx21 hx22 hx23 hx24 hx25) hlc hgi hx8 hxT
    (refine run ?_)
    refine br (ot G hG (.ptr (n0+5) 0 0 0) vn (ed an (bk ans)) _ (.inr ⟨_,rfl,by simp only[List.length_append,hlenQ,List.length_cons,List.length_nil];omega⟩)) ?_
    rintro r H' ⟨rfl,rfl⟩
    simp only[List.append_assoc,List.cons_append,List.nil_append,List.length_append,List.length_cons,List.length_nil,List.length_set,X,Nat.reduceAdd]
    (refine run ?_)
    refine br (hTi (.ptr (n0+6) 0 0 0) _ (by rw[hka,if_pos rfl];exact⟨_,_,rfl,by rw[hx23];rfl,⟨_,_,rfl,by rw[hx23];rfl,hkn _ _⟩⟩)) ?_
    rintro r H' ⟨rfl,rfl⟩
    have X:=oD (eu aO hx20 hx21 hx22 hx23 hx24 hx25) hlc hgi hst hr8 hrT
    (refine run ?_)
    refine hK _ _ (i+1) (by omega) (by omega) ?_
    rw[hsD,hsN,hsT]
    simp only[List.append_assoc,List.cons_append,List.nil_append]
    exact bI (n0:=n0) [(n0,0),(n0+1,0),(n0+2,0),(n0+3,0)] hG hB hC' (hcls _) (hn:=hlenQ _) (hd:=ra n0 [0,1,2,3] (by decide))
   ·have X:=oD (eu aO hx20 hx21 hx22 hx23 hx24 hx25) hlc hgi hx8 hxT hv1
    (refine run ?_)
    refine br (hTi (.ptr (n0+5) 0 0 0) _ (by rw[hka,if_neg hv1];exact⟨_,_,rfl,by rw[hx23];rfl,hkn _ _⟩)) ?_
    rintro r H' ⟨rfl,rfl⟩
    have X:=oD (eu aO hx20 hx21 hx22 hx23 hx24 hx25) hlc hgi hst hr8 hrT
    (refine run ?_)
    refine hK _ _ (i+1) (by omega) (by omega) ?_
    rw[hsD,hsN,hsT]
    simp only[List.append_assoc,List.cons_append,List.nil_append]
    exact bI (n0:=n0) [(n0,0),(n0+1,0),(n0+2,0),(n0+3,0)] hG hB hC' (hcls _) (hn:=hlenQ _) (hd:=ra n0 [0,1,2,3] (by decide))
  ·have hka:sR k enm v (.mk ak an am ans ab)=if v.kind=1 then (v.name,qS (.mk ak an am ans ab))::(enm,qS (.mk ak an am ans ab))::k else (enm,qS (.mk ak an am ans ab))::k:=if_neg h3
   rw[hvk,hvn,show qS (.mk ak an am ans ab)=cI am from if_neg h1] at hka
   have X:=j8 (eu aO hx20 hx21 hx22 hx23 hx24 hx25) hlc hgi h1 h3
   (refine run ?_;with_reducible repeat' first|exact trivial|(apply aJ.mk<;>intro hb)|apply bN.mk)
   refine br (ot G hG kv enm (cI am) _ (kf _)) ?_
   rintro r H' ⟨rfl,rfl⟩
   simp only[List.append_assoc,List.cons_append,List.nil_append,List.length_append,List.length_cons,List.length_nil,List.length_set,X,Nat.reduceAdd]
   by_cases hv1:vk=1
   ·subst hv1
    have X:=j8 (eu aO hx20 hx21 hx22 hx23 hx24 hx25) hlc hgi hx8 hxT
    (refine run ?_)
    refine br (ot G hG (.ptr (n0+5) 0 0 0) vn (cI am) _ (.inr ⟨_,rfl,by simp only[List.length_append,hlenQ,List.length_cons,List.length_nil];omega⟩)) ?_
    rintro r H' ⟨rfl,rfl⟩
    simp only[List.append_assoc,List.cons_append,List.nil_append,List.length_append,List.length_cons,List.length_nil,List.length_set,X,Nat.reduceAdd]
    (refine run ?_)
    refine br (hTi (.ptr (n0+6) 0 0 0) _ (by rw[hka,if_pos rfl];exact⟨_,_,rfl,by rw[hx23];rfl,⟨_,_,rfl,by rw[hx23];rfl,hkn _ _⟩⟩)) ?_
    rintro r H' ⟨rfl,rfl⟩
    have X:=oD (eu aO hx20 hx21 hx22 hx23 hx24 hx25) hlc hgi hst hr8 hrT
    (refine run ?_)
    refine hK _ _ (i+1) (by omega) (by omega) ?_
    rw[hsD,hsN,hsT]
    simp only[List.append_assoc,List.cons_append,List.nil_append]
    exact bI (n0:=n0) [(n0,0),(n0+1,0),(n0+2,0),(n0+3,0)] hG hB hC' (hcls _) (hn:=hlenQ _) (hd:=ra n0 [0,1,2,3] (by decide))
   ·have X:=oD (eu aO hx20 hx21 hx22 hx23 hx24 hx25) hlc hgi hx8 hxT hv1
    (refine run ?_)
    refine br (hTi (.ptr (n0+5) 0 0 0) _ (by rw[hka,if_neg hv1];exact⟨_,_,rfl,by rw[hx23];rfl,hkn _ _⟩)) ?_
    rintro r H' ⟨rfl,rfl⟩
    have X:=oD (eu aO hx20 hx21 hx22 hx23 hx24 hx25) hlc hgi hst hr8 hrT
    (refine run ?_)
    refine hK _ _ (i+1) (by omega) (by omega) ?_
    rw[hsD,hsN,hsT]
    simp only[List.append_assoc,List.cons_append,List.nil_append]
    exact bI (n0:=n0) [(n0,0),(n0+1,0),(n0+2,0),(n0+3,0)] hG hB hC' (hcls _) (hn:=hlenQ _) (hd:=ra n0 [0,1,2,3] (by decide))
 obtain rfl:i=alts.length:=by omega
 clear hK
 rw[ve.1,ve.2,List.drop_length,List.append_nil] at*
 have hgv:Gd cs P v:=hgE.sub v (List.mem_singleton_self v)
 have hA1l:(aG (cB F k enm v) alts n).1.length=alts.length:=ek _ _ _
 clear hT hnm
 generalize (aG (cB F k enm v) alts n).1=A1 at*
 generalize (aG (cB F k enm v) alts n).2=n1 at*
 have hA1u:=bA n0 A1
 have hA1c:=dF A1
 refine ke [(0,.ptr sb g0 0 0),(4,.ptr n0 0 0 0),(6,.ptr (n0+1) 0 0 0),(7,.ptr (n0+2) 0 0 0),(2,kv),(30,.int .i64 alts.length),(31,.int .i64 (alts.length:Int))]
  (Q n1++[.cells 0 8 [.agg [.int .i64 6,.str enm,.int .i64 0,.int .i64 0,.list 1 [],.list 8 [.agg [.int .i64 vk,.str vn,.int .i64 vnn,.int .i64 vop,.list 1 (vns.map .str),.list 8 (ag vss),.list 9 (ad vbs),.list 12 (af vas)]],.list 9 [],.list 12 (af A1)]],.cells 0 8 [.agg [.int .i64 0,.str [],.int .i64 0,.int .i64 0,.list 1 [],.list 8 [],.list 9 [],.list 12 []]],.cells 0 8 [.agg [.int .i64 vk,.str vn,.int .i64 vnn,.int .i64 vop,.list 1 (vns.map .str),.list 8 (ag vss),.list 9 (ad vbs),.list 12 (af vas)]]]) (bI (n0:=n0) [(n0,0),(n0+1,0),(n0+2,0)] hG hB hC' (hcls _) (hn:=hlenQ _) (hd:=ra n0 [0,1,2] (by decide))
   (hk:=bH.c (by rw[hx22];rfl) (Nat.le_refl _) (Nat.zero_le _) (.cons _ _ _ _ (.agg _ _ (Gq 6 enm 0 0 (.same _ rfl) (.same _ (by simp only[SV.under,SV.aj,bc,aK,bA,bj,Bool.and_self])) (.same _ rfl) (bF.sf (by rw[hx23];rfl) (by omega) (by simp) (by rw[List.drop_zero,List.take_of_length_le (by omega)]) hA1u))) .nil) (bH.c (by rw[hx23];rfl) (by omega) (Nat.zero_le _) (by exact gi) (bH.c (by rw[hx23];rfl) (by omega) (Nat.zero_le _) (by exact gi) .nil)))) ?_
 have hew:(eE enm v A1).wt=1+v.wt+cf A1:=by simp only[eE,Ex.wt,cn,aV,List.length_nil];omega
 have hA1w:=iQ A1
 have hesv:(eE enm v A1).sv= .agg [.int .i64 6,.str enm,.int .i64 0,.int .i64 0,.list 1 [],.list 8 [.agg [.int .i64 vk,.str vn,.int .i64 vnn,.int .i64 vop,.list 1 (vns.map .str),.list 8 (ag vss),.list 9 (ad vbs),.list 12 (af vas)]],.list 9 [],.list 12 (af A1)]:=by rw[hv];rfl
 have heu:SV.aj n0 [.int .i64 6,.str enm,.int .i64 0,.int .i64 0,.list 1 [],.list 8 [.agg [.int .i64 vk,.str vn,.int .i64 vnn,.int .i64 vop,.list 1 (vns.map .str),.list 8 (ag vss),.list 9 (ad vbs),.list 12 (af vas)]],.list 9 [],.list 12 (af A1)]=true:=by simp only[SV.under,SV.aj,bc,aK,bA,bj,Bool.and_self]
 have hvsv:v.sv= .agg [.int .i64 vk,.str vn,.int .i64 vnn,.int .i64 vop,.list 1 (vns.map .str),.list 8 (ag vss),.list 9 (ad vbs),.list 12 (af vas)]:=by rw[hv];rfl
 have hirr:=Int.lt_irrefl (alts.length:Int)
 have hlet:=fun(a:Al) (H:List av)=>dr G hG [.mk enm v] a.body H
 have hchs:=fun(w:Ex) (H:List av)=>F5 G hG A1 w (by omega) H
 simp only[fe] at hlet
 have hvc:v.cells=[.int .i64 vk,.str vn,.int .i64 vnn,.int .i64 vop,.list 1 (vns.map .str),.list 8 (ag vss),.list 9 (ad vbs),.list 12 (af vas)]:=by rw[hv];rfl
 rw[hvc] at hlet
 have hbn:ad ([]:List Bd)=[]:=by simp[az]
 by_cases k23:vk=2∨vk=3
 ·have hcas:iG k (eE enm v A1) v n1=match l8 A1 v with
   |some a=>(letE a.body [.mk enm v],n1)
   |none=>(eE enm v A1,n1):=by
   unfold iG
   rw[if_pos (by rw[hvk];exact k23)]
   rfl
  rw[hcas] at hR
  clear hcas hnb
  have c1:=hchs v
  rw[hvsv] at c1
  cases hch:l8 A1 v with
  |none=>
   rw[hch] at c1 hR
   dsimp only[DZ] at c1 hR
   rw[hesv] at hR
   rcases k23 with rfl|rfl
   all_goals
    have X:=And.intro (eu aO hx20 hx21 hx22 hx23 hx24 hx25) hirr
    (refine run ?_)
    exact Fin.aS (n0:=n0) hR (hlenQ _) hC' (hcls _) (.same _ (by simp only[aC,SV.under,heu])) ⟨rfl,rfl⟩
  |some a=>
   rw[hch] at c1 hR
   dsimp only[DZ] at c1 hR
   have c2:=hlet a
   obtain⟨ak,an,am,ans,ab⟩:=a
   dsimp only[Al.body] at c2 hR
   rw[show(Al.mk ak an am ans ab).sv= .agg (.int .i64 ak:: .str an:: .int .i64 am:: .list 1 (ans.map .str)::ab.cells) from by rw[Al.sv,Al.bf];rfl] at c1
   rw[hbn] at c2
   have hr8:=(letE ab [.mk enm v]).au
   have hrT:=(letE ab [.mk enm v]).ao
   have hru:=(letE ab [.mk enm v]).aw n0
   rw[show(letE ab [.mk enm v]).sv= .agg (letE ab [.mk enm v]).cells from rfl] at c2 hR
   generalize (letE ab [.mk enm v]).cells=xr at*
   rw[show ab.sv= .agg ab.cells from rfl] at c2
   have hb8:=ab.au
   have hbT:=ab.ao
   generalize ab.cells=xb at*
   rcases k23 with rfl|rfl
   all_goals
    have X:=oD (eu aO hx20 hx21 hx22 hx23 hx24 hx25) hirr hb8 hbT hr8 hrT
    (refine run ?_)
    all_goals exact Fin.aS (n0:=n0) hR (hlenQ _) hC' (hcls _) (.same _ (by simp only[aC,SV.under,hru])) ⟨rfl,rfl⟩
 by_cases k7:vk=7
 ·have hcas:iG k (eE enm v A1) v n1=match l8 A1 v with
   |some a=>(iC enm v a,n1)
   |none=>(eE enm v A1,n1):=by
   unfold iG
   rw[if_neg (by rw[hvk];exact k23),if_pos (by rw[hvk];exact k7)]
   rfl
  rw[hcas] at hR
  clear hcas hnb
  subst k7
  have c1:=hchs v
  rw[hvsv] at c1
  cases hch:l8 A1 v with
  |none=>
   rw[hch] at c1 hR
   dsimp only[DZ] at c1 hR
   rw[hesv] at hR
   have X:=And.intro (eu aO hx20 hx21 hx22 hx23 hx24 hx25) hirr
   (refine run ?_)
   exact Fin.aS (n0:=n0) hR (hlenQ _) hC' (hcls _) (.same _ (by simp only[aC,SV.under,heu])) ⟨rfl,rfl⟩
  |some a=>
   rw[hch] at c1 hR
   dsimp only[DZ] at c1 hR
   have hsl:=Ab hgE hgv hch
   have ham:=mh (lf hch).1
   have c2:=fun H=>Hg G hG (eE enm v A1) v a (by rcases hsl with h|h;(rw[h];exact Nat.zero_le _);omega) (by omega) H
   rw[hesv,hvsv,show(eE enm v A1).name=enm from rfl] at c2
   obtain⟨ak,an,am,ans,ab⟩:=a
   rw[show(Al.mk ak an am ans ab).sv= .agg (.int .i64 ak:: .str an:: .int .i64 am:: .list 1 (ans.map .str)::ab.cells) from by rw[Al.sv,Al.bf];rfl] at c1 c2
   have hr8:=(iC enm v (.mk ak an am ans ab)).au
   have hrT:=(iC enm v (.mk ak an am ans ab)).ao
   have hru:=(iC enm v (.mk ak an am ans ab)).aw n0
   rw[show(iC enm v (.mk ak an am ans ab)).sv= .agg (iC enm v (.mk ak an am ans ab)).cells from rfl] at c2 hR
   generalize (iC enm v (.mk ak an am ans ab)).cells=xr at*
   have X:=iY (eu aO hx20 hx21 hx22 hx23 hx24 hx25) hirr hr8 hrT
   (refine run ?_)
   exact Fin.aS (n0:=n0) hR (hlenQ _) hC' (hcls _) (.same _ (by simp only[aC,SV.under,hru])) ⟨rfl,rfl⟩
 by_cases k5:vk=5
 ·have hcas:iG k (eE enm v A1) v n1=(letE (na (eE enm v A1) (eH v.ae)) v.binds,n1):=by
   unfold iG
   rw[if_neg (by rw[hvk];exact k23),if_neg (by rw[hvk];exact k7),if_neg (by rw[hvk];omega),if_pos (by rw[hvk];exact k5)]
  rw[hcas] at hR
  clear hcas hnb
  have hvf:=jj hgv (hvk.trans k5)
  generalize eH v.ae=u at*
  generalize v.binds=ub at*
  rw[hv] at hvf
  obtain⟨rfl,rfl,rfl,rfl,rfl,rfl,rfl,rfl⟩:=Ex.mk.inj hvf
  have c1:=fun H=>Nq G hG (eE enm v A1) u H
  have c2:=fun H=>dr G hG vbs (na (eE enm v A1) u) H
  rw[hesv] at c1
  have hs8:=(na (eE enm v A1) u).au
  have hsT:=(na (eE enm v A1) u).ao
  have hr8:=(letE (na (eE enm v A1) u) vbs).au
  have hrT:=(letE (na (eE enm v A1) u) vbs).ao
  have hru:=(letE (na (eE enm v A1) u) vbs).aw n0
  have hu8:=u.au
  have huT:=u.ao
  rw[show(letE (na (eE enm v A1) u) vbs).sv= .agg (letE (na (eE enm v A1) u) vbs).cells from rfl] at c2 hR
  rw[show(na (eE enm v A1) u).sv= .agg (na (eE enm v A1) u).cells from rfl] at c1 c2
  rw[show u.sv= .agg u.cells from rfl] at c1
  have hux:ag [u]=[.agg u.cells]:=by rw[aL];rfl
  simp only[hux] at c1 hvu1 heu ⊢
  generalize (letE (na (eE enm v A1) u) vbs).cells=xr at*
  generalize (na (eE enm v A1) u).cells=xs at*
  generalize u.cells=xu at*
  have X:=FW (eu aO hx20 hx21 hx22 hx23 hx24 hx25) hirr hr8 hrT hs8 hsT hu8 huT
  (refine run ?_)
  exact Fin.aS (n0:=n0) hR (hlenQ _) hC' (hcls _) (.same _ (by simp only[aC,SV.under,hru])) ⟨rfl,rfl⟩
 by_cases k6:vk=6
 ·have hcas:iG k (eE enm v A1) v n1=eV (eE enm v A1) v n1:=by
   unfold iG
   rw[if_neg (by rw[hvk];exact k23),if_neg (by rw[hvk];exact k7),if_neg (by rw[hvk];omega),if_neg (by rw[hvk];exact k5),if_pos (by rw[hvk];exact k6)]
  rw[hcas] at hR hnb
  clear hcas
  have c1:=fun L=>GI G hG hit (eE enm v A1) v hgE rfl hgv (hvk.trans k6) rfl hwt n1 hnb (Q n1++L) sb g0 (hQ.get n1 L)
  simp only[hQ.set] at c1
  rw[hesv,hvsv] at c1
  subst k6
  have hr8:=(eV (eE enm v A1) v n1).1.au
  have hrT:=(eV (eE enm v A1) v n1).1.ao
  have hru:=(eV (eE enm v A1) v n1).1.aw n0
  rw[show(eV (eE enm v A1) v n1).1.sv= .agg (eV (eE enm v A1) v n1).1.cells from rfl] at c1 hR
  generalize (eV (eE enm v A1) v n1).1.cells=xr at*
  generalize (eV (eE enm v A1) v n1).2=n2 at*
  have X:=iY (eu aO hx20 hx21 hx22 hx23 hx24 hx25) hirr hr8 hrT
  (refine run ?_)
  exact Fin.aS (n0:=n0) hR (hlenQ _) hC' (hcls _) (.same _ (by simp only[aC,SV.under,hru])) ⟨rfl,rfl⟩
 by_cases k1:vk=1
 rotate_left
 ·have hcas:iG k (eE enm v A1) v n1=if cu v=true then (v,n1) else (eE enm v A1,n1):=by
   unfold iG
   rw[if_neg (by rw[hvk];exact k23),if_neg (by rw[hvk];exact k7),if_neg (by rw[hvk];exact k1),if_neg (by rw[hvk];exact k5),if_neg (by rw[hvk];exact k6)]
  rw[hcas] at hR
  clear hcas hnb
  have k2:¬ vk=2:=fun h=>k23 (.inl h)
  have k3:¬ vk=3:=fun h=>k23 (.inr h)
  by_cases k8:vk=8
  ·have c1:=fun H=>lK G hG v H
   rw[hvsv] at c1
   subst k8
   cases hrs:cu v with
   |true=>
    rw[hrs] at c1 hR
    simp only[if_true] at hR
    rw[hvsv] at hR
    have X:=And.intro (eu aO hx20 hx21 hx22 hx23 hx24 hx25) hirr
    (refine run ?_)
    exact Fin.aS (n0:=n0) hR (hlenQ _) hC' (hcls _) (.same _ (by simp only[aC,SV.under,SV.aj,bc,aK,bA,bj,Bool.and_self])) ⟨rfl,rfl⟩
   |false=>
    rw[hrs] at c1 hR
    simp only[Bool.false_eq_true,if_false] at hR
    rw[hesv] at hR
    have X:=And.intro (eu aO hx20 hx21 hx22 hx23 hx24 hx25) hirr
    (refine run ?_)
    exact Fin.aS (n0:=n0) hR (hlenQ _) hC' (hcls _) (.same _ (by simp only[aC,SV.under,heu])) ⟨rfl,rfl⟩
  ·have hrs:cu v=false:=by
    unfold cu;rw[hvk,decide_eq_false k8];rfl
   rw[hrs] at hR
   simp only[Bool.false_eq_true,if_false] at hR
   rw[hesv] at hR
   have X:=C3 (eu aO hx20 hx21 hx22 hx23 hx24 hx25) hirr k1 k2 k3 k5 k6 k7 k8
   (refine run ?_)
   exact Fin.aS (n0:=n0) hR (hlenQ _) hC' (hcls _) (.same _ (by simp only[aC,SV.under,heu])) ⟨rfl,rfl⟩
 have hcas:iG k (eE enm v A1) v n1=match E6 k vn with
  |none=>(eE enm v A1,n1)
  |some sh=>match l8 A1 sh with
   |some a=>(cS enm v ((a.names.zip sh.ae).foldl (fun b p=>cS p.1 p.2 b) a.body),n1)
   |none=>(eE enm v A1,n1):=by
  unfold iG
  rw[if_neg (by rw[hvk];exact k23),if_neg (by rw[hvk];exact k7),if_pos (by rw[hvk];exact k1),hvn]
  rfl
 rw[hcas] at hR
 clear hcas hnb
 have c1:=fun L=>JP G hG kv k vn (Q n1++L) (hkn n1 L)
 have hva:bU v=true:=by unfold bU;rw[hvk,decide_eq_true k1];rfl
 subst k1
 cases hkk:E6 k vn with
 |none=>
  rw[hkk] at c1 hR
  dsimp only[Option.getD_none,Option.isSome_none] at c1 hR
  rw[hesv] at hR
  rw[show jM.sv= .agg [.int .i64 0,.str [],.int .i64 0,.int .i64 0,.list 1 [],.list 8 [],.list 9 [],.list 12 []] from rfl] at c1
  have X:=And.intro (eu aO hx20 hx21 hx22 hx23 hx24 hx25) hirr
  (refine run ?_)
  exact Fin.aS (n0:=n0) hR (hlenQ _) hC' (hcls _) (.same _ (by simp only[aC,SV.under,heu])) ⟨rfl,rfl⟩
 |some sh=>
  obtain⟨hshG,hshS⟩:=hk _ _ hkk
  rw[hkk] at c1 hR
  dsimp only[Option.getD_some,Option.isSome_some] at c1 hR
  have c2:=hchs sh
  have hat:=vK hshG hshS
  have hslE:∀ a,l8 A1 sh=some a→_:=fun a h=>Ab hgE hshG h
  generalize hss:sh.ae=ss at*
  obtain⟨sk,sn,snn,sop,sns,sss,sbs,sas⟩:=sh
  obtain rfl:sss=ss:=hss
  rw[show(Ex.mk sk sn snn sop sns sss sbs sas).sv= .agg [.int .i64 sk,.str sn,.int .i64 snn,.int .i64 sop,.list 1 (sns.map .str),.list 8 (ag sss),.list 9 (ad sbs),.list 12 (af sas)] from rfl] at c1 c2
  cases hch:l8 A1 (.mk sk sn snn sop sns sss sbs sas) with
  |none=>
   rw[hch] at c2 hR
   dsimp only[DZ] at c2 hR
   rw[hesv] at hR
   have X:=And.intro (eu aO hx20 hx21 hx22 hx23 hx24 hx25) hirr
   (refine run ?_)
   exact Fin.aS (n0:=n0) hR (hlenQ _) hC' (hcls _) (.same _ (by simp only[aC,SV.under,heu])) ⟨rfl,rfl⟩
  |some a=>
   have hsl:=hslE a hch
   have ham:=mh (lf hch).1
   rw[hch] at c2 hR
   dsimp only[DZ] at c2 hR
   obtain⟨ak,an,am,ans,ab⟩:=a
   dsimp only[Al.names,Al.body,Al.kind] at hsl ham hR
   rw[show(Al.mk ak an am ans ab).sv= .agg (.int .i64 ak:: .str an:: .int .i64 am:: .list 1 (ans.map .str)::ab.cells) from by rw[Al.sv,Al.bf];rfl] at c2
   have hb8:=ab.au
   have hbT:=ab.ao
   have hbu:=ab.aw n0
   generalize hxb:ab.cells=xb at*
   have hansl:(ans.map SV.str).length=ans.length:=List.length_map _
   have X:=j8 (eu aO hx20 hx21 hx22 hx23 hx24 hx25) hirr hb8 hbT hansl
   (refine run ?_)
   have hle:ans.length≤sss.length:=by
    rcases hsl with h|h
    ·rw[h];exact Nat.zero_le _
    ·omega
   have hpl:(ans.zip sss).length=ans.length:=by rw[List.length_zip];omega
   have hpw:∀ p∈ans.zip sss,p.2.wt≤1:=fun p hp=>Lh (hat _ (List.of_mem_zip hp).2).1 (hat _ (List.of_mem_zip hp).2).2
   have hsl2:=bV sss
   refine aA (fun i:Nat=>[(0,.ptr sb g0 0 0),(4,.ptr n0 0 0 0),(6,.ptr (n0+1) 0 0 0),(7,.ptr (n0+2) 0 0 0),(14,.ptr (n0+3) 0 0 0),(17,.ptr (n0+4) 0 0 0),(146,.list 1 (ans.map .str)),(147,.int .i64 ans.length),(148,.int .i64 (i:Int))])
    (fun i=>Q n1++[.cells 0 8 [.agg [.int .i64 6,.str enm,.int .i64 0,.int .i64 0,.list 1 [],.list 8 [.agg [.int .i64 1,.str vn,.int .i64 vnn,.int .i64 vop,.list 1 (vns.map .str),.list 8 (ag vss),.list 9 (ad vbs),.list 12 (af vas)]],.list 9 [],.list 12 (af A1)]],.cells 0 8 [.agg [.int .i64 0,.str [],.int .i64 0,.int .i64 0,.list 1 [],.list 8 [],.list 9 [],.list 12 []]],.cells 0 8 [.agg [.int .i64 1,.str vn,.int .i64 vnn,.int .i64 vop,.list 1 (vns.map .str),.list 8 (ag vss),.list 9 (ad vbs),.list 12 (af vas)]],.cells 0 8 [.agg [.int .i64 sk,.str sn,.int .i64 snn,.int .i64 sop,.list 1 (sns.map .str),.list 8 (ag sss),.list 9 (ad sbs),.list 12 (af sas)]],.cells 0 8 [.agg (ir (ans.zip sss) ab i).cells]]) (fun i=>ans.length - i) (fun i=>i≤ans.length) 0 (Nat.zero_le _) ?_ ?_
   ·rw[GM,hxb]
    exact bI (n0:=n0) [(n0,0),(n0+1,0),(n0+2,0),(n0+3,0),(n0+4,0)] hG hB hC' (hcls _) (hn:=hlenQ _) (hd:=ra n0 [0,1,2,3,4] (by decide))
   rintro K2 i hi hK2
   have hbw:=FE hpw ab i (by omega)
   have hi8:=(ir (ans.zip sss) ab i).au
   have hiT:=(ir (ans.zip sss) ab i).ao
   rcases Nat.lt_or_ge i ans.length with hlt|hge2
   ·have hz:(ans.zip sss)[i]? =some (ans.zip sss)[i]:=List.getElem?_eq_getElem (by omega)
    obtain⟨-,-,z3,z4⟩:=Et hz
    have z5:(ans.map SV.str)[i]? =some (.str (ans.zip sss)[i].1):=by rw[List.getElem?_map,z3];rfl
    have hps:=xW (ps:=ans.zip sss) (b:=ab) (i:=i) (by omega)
    have c3:=fun H=>gN G hG (ans.zip sss)[i].1 (ans.zip sss)[i].2 (ir (ans.zip sss) ab i).wt (ir (ans.zip sss) ab i) H (Nat.le_refl _) (by omega)
    rw[show dK (ans.zip sss)[i].1 (ans.zip sss)[i].2 (ir (ans.zip sss) ab i).wt (ir (ans.zip sss) ab i)=ir (ans.zip sss) ab (i+1) from hps.symm] at c3
    have hr8:=(ir (ans.zip sss) ab (i+1)).au
    have hrT:=(ir (ans.zip sss) ab (i+1)).ao
    have hru:=(ir (ans.zip sss) ab (i+1)).aw n0
    have hy8:=(ans.zip sss)[i].2.au
    have hyT:=(ans.zip sss)[i].2.ao
    rw[show(ir (ans.zip sss) ab (i+1)).sv= .agg (ir (ans.zip sss) ab (i+1)).cells from rfl,show(ir (ans.zip sss) ab i).sv= .agg (ir (ans.zip sss) ab i).cells from rfl,show((ans.zip sss)[i].2).sv= .agg ((ans.zip sss)[i].2).cells from rfl] at c3
    generalize (ans.zip sss)[i].2.cells=xy at*
    generalize (ans.zip sss)[i].1=nmi at*
    clear hps
    generalize hb0:(ir (ans.zip sss) ab i).cells=xi at*
    generalize hb1:(ir (ans.zip sss) ab (i+1)).cells=xj at*
    have X:=C3 (eu aO hx20 hx21 hx22 hx23 hx24 hx25) hi8 hiT hr8 hrT hy8 hyT z4 z5
    (refine run ?_;with_reducible repeat' first|exact trivial|(apply aJ.mk<;>intro hb)|apply bN.mk)
    refine hK2 _ _ (i+1) (by omega) (by omega) ?_
    rw[hb1]
    exact bI (n0:=n0) [(n0,0),(n0+1,0),(n0+2,0),(n0+3,0),(n0+4,0)] hG hB hC' (hcls _) (hn:=hlenQ _) (hd:=ra n0 [0,1,2,3,4] (by decide))
   obtain rfl:i=ans.length:=by omega
   clear hK2
   have hpa:ir (ans.zip sss) ab ans.length=(ans.zip sss).foldl (fun b p=>cS p.1 p.2 b) ab:=by rw[← hpl];exact J2 _ _
   rw[← hpa] at hR
   generalize ir (ans.zip sss) ab ans.length=B at*
   have c3:=fun H=>gN G hG enm v B.wt B H (Nat.le_refl _) (by omega)
   rw[show dK enm v B.wt B=cS enm v B from rfl,hvsv] at c3
   have hr8:=(cS enm v B).au
   have hrT:=(cS enm v B).ao
   have hru:=(cS enm v B).aw n0
   rw[show(cS enm v B).sv= .agg (cS enm v B).cells from rfl] at c3 hR
   rw[show B.sv= .agg B.cells from rfl] at c3
   generalize (cS enm v B).cells=xr at*
   generalize B.cells=xB at*
   have hirr2:=Int.lt_irrefl (ans.length:Int)
   have X:=oD (eu aO hx20 hx21 hx22 hx23 hx24 hx25) hirr2 hi8 hiT hr8 hrT
   (refine run ?_)
   exact Fin.aS (n0:=n0) hR (hlenQ _) hC' (hcls _) (.same _ (by simp only[aC,SV.under,hru])) ⟨rfl,rfl⟩
end
theorem Mk (G:Gl) (hG:ah G) (body:Ex) (binds:List Bd) (H:List av) (hw:body.wt<137438953472) (hwb:aV binds<137438953472):
 aq Tryz.prog G 96 [body.sv,.list 9 (ad binds)] H (fun r H'=>H'=H++[.cells 0 1 ((dB body binds).map (.int .i64))]∧r= .sl H.length 0 0 (dB body binds).length):=by
 have hbl:=cM binds
 refine bP [8] Tryz.func96 Tryz.ntmps96 fun C R' hR hC hcl hB hC' X=>?_
 (refine run ?_)
 refine br (rZ G hG binds _) ?_
 rintro r H' ⟨rfl,rfl⟩
 (refine run ?_)
 refine fj iD (σ:=Nat) (ξ:=Nat×Bd) (fun i=>H++[.cells 0 8 [body.sv],.map none (kG (FY (binds.drop i) i)),.cells 0 1 [.map (H.length+1)]]) (H.length+3) (fun s=>by simp) binds.length
  [(2,.ptr H.length 0 0 0),(5,.ptr (H.length+2) 0 0 0),(1,.list 9 (ad binds)),(14,.fn (.func 163) [] [.gM (.list 9 (ad binds))])] (fun x=>[.int .i64 x.1,.agg (.str x.2.name::x.2.e.cells)]) (fun s x=>s=x.1+1∧binds[x.1]? =some x.2) (fun s x=>x.1) (fun s=>s=0)
  (fun x=>[(16,.agg (.str x.2.name::x.2.e.cells)),(15,.int .i64 x.1),(2,.ptr H.length 0 0 0),(5,.ptr (H.length+2) 0 0 0),(1,.list 9 (ad binds)),(14,.fn (.func 163) [] [.gM (.list 9 (ad binds))])]) rfl rfl (fun x=>rfl) (fun x=>rfl) ?_ ?_ ?_ ?_
 ·rw[List.drop_length]
  exact Wk.sub (by simp[aW,look])
 ·intro G' LO hGl hLO hy
  have:=pH G' binds (by omega) (H.length+3) (fun i=>(H++[.cells 0 8 [body.sv],.map none (kG (FY (binds.drop i) i)),.cells 0 1 [.map (H.length+1)]])++[LO]) (fun i hi Y=>by
   have:=hy (i+1) (i,binds[i]) Y ⟨rfl,List.getElem?_eq_getElem hi⟩
   simpa only[List.append_assoc,List.cons_append,List.nil_append] using this)
  exact this.mono fun r H' h=>⟨0,rfl,h⟩
 ·rintro G' C' ρ' s ⟨j,b⟩ Y LO LB K1 K hGl hB' hCH hcl' hLO hLB ⟨hs,hb⟩ hK1 hK
  subst hs
  have hj:j<binds.length:=(List.getElem?_eq_some_iff.1 hb).1
  have hbe:binds[j]=b:=(List.getElem?_eq_some_iff.1 hb).2
  have X:=aO
  have hG':ah G':=by unfold ah;rw[hGl];exact hG
  simp only[List.append_assoc,List.cons_append,List.nil_append] at hcl' hCH ⊢
  (refine run ?_)
  refine hK1 _ _ (by rw[aH];rfl) ?_
  simp only[bW,List.set_cons_succ,List.set_cons_zero]
  (refine run ?_)
  refine hK _ _ ?_
  have e:FY (binds.drop j) j=kU (FY (binds.drop (j+1)) (j+1)) b.name j:=by rw[List.drop_eq_getElem_cons hj,hbe];rfl
  simp only[List.append_assoc,List.cons_append,List.nil_append,e]
  rw[show ∀ (x1 x2 x3 x4 x5:av),H++x1::x2::x3::x4::(Y++[x5])=(H++x1::x2::x3::x4::Y)++[x5] from fun _ _ _ _ _=>by simp]
  have hcl2:closed (H++ .cells 0 8 [body.sv]:: .map none (kG (kU (FY (binds.drop (j+1)) (j+1)) b.name j)):: .cells 0 1 [.map (H.length+1)]::LB::Y):=by
   refine mn hcl' (by simp) (fun q hq=>?_)
   simp only[List.mem_cons] at hq
   rcases hq with rfl|rfl|rfl|rfl|hq
   ·simp only[av.under,SV.aj,Ex.gx,Bool.and_self]
   ·exact gB _ _
   ·simp only[av.under,SV.aj,SV.under,List.length_cons,Bool.and_true,decide_eq_true_eq];omega
   ·exact av.pz (Nat.zero_le _) hLB
   ·have:=hcl' q (by simp[hq])
    simpa using this
  exact Wk.tell hG' (fun C0 h0=>by have:=hB' C0 h0;rw[hCH] at this;simpa using this) (by rw[hCH];simp) hcl2 trivial
 ·intro s LO hs hLO
  subst hs
  simp only[List.append_assoc,List.cons_append,List.nil_append,List.drop_zero]
  (refine run ?_)
  refine br (zd G hG body _ (by omega)) ?_
  rintro r H' ⟨rfl,rfl⟩
  simp only[List.append_assoc,List.cons_append,List.nil_append,List.length_append,List.length_cons,List.length_nil,List.length_set,X,Nat.reduceAdd]
  (refine run ?_)
  have hfl:=lX body
  have hpe:=MF binds []
  generalize hμ:(de body).length+me binds []=μ0
  refine aA (fun a:List aD×List Int=>[(5,.ptr (H.length+1) 0 0 0),(1,.list 9 (ad binds)),(9,.sl (H.length+3) 0 0 a.1.length),(8,.sl (H.length+2) 0 0 a.2.length)])
   (fun a=>H++[.map none (kG (FY binds 0)),.cells 0 1 [.map H.length],.cells 0 1 (a.2.map (.int .i64)),.cells 0 1 (a.1.map .str)])
   (fun a=>a.1.length+me binds a.2) (fun a=>a.1.length+me binds a.2≤μ0∧a.2.length≤binds.length∧(∀ i∈a.2,∃ k:Nat,k<binds.length∧i=k)∧a.2.Nodup∧jt binds (a.1.length+me binds a.2) a.1 a.2=jt binds μ0 (de body) []) (de body,[]) ⟨by simp only;omega,by simp,by simp,List.nodup_nil,by rw[hμ]⟩ ?_ ?_
  ·simp only[List.length_nil,List.map_nil]
   exact bI (n0:=H.length) [(H.length+1,0),(H.length+2,0),(H.length+4,0),(H.length+5,0)] hG hB hC' hcl
  ·rintro K ⟨todo,out⟩ ⟨h1,h2,h3,h4,h5⟩ hK
   simp only at h1 h2 h3 h4 h5
   rcases todo with _|⟨s,rest⟩
   ·simp only[List.length_nil,List.map_nil]
    (refine run ?_)
    refine br (Hd G (H.length+2) 0 out _ (by rw[aH];rfl) (by omega)) ?_
    rintro r H' ⟨rfl,rfl⟩
    simp only[bW,List.set_cons_succ,List.set_cons_zero]
    (refine run ?_)
    have hls:dB body binds=FK out:=by
     rw[dB,hμ,← h5]
     generalize ([]:List aD).length+me binds out=f
     cases f<;>rfl
    have hlo:(FK out).length=out.length:=(List.mergeSort_perm out _).length_eq
    rw[← hls] at hlo ⊢
    rw[← hlo]
    exact gD [(H.length+2,0)] (.sl H.length 0 0 (dB body binds).length) [.cells 0 1 ((dB body binds).map (.int .i64))] hR hC' hcl ⟨rfl,rfl⟩
   ·have hun:∀ f,jt binds (f+1) (s::rest) out=if s∈binds.map Bd.name∧idxFrom 0 (binds.map Bd.name) s∉out then jt binds f (rest++iy binds (idxFrom 0 (binds.map Bd.name) s).toNat) (out++[idxFrom 0 (binds.map Bd.name) s]) else jt binds f rest out:=fun f=>rfl
    rw[show(s::rest).length+me binds out=(rest.length+me binds out)+1 by simp only[List.length_cons];omega,hun] at h5
    simp only[List.length_cons] at h1
    by_cases hs:s∈(FY binds 0).map Prod.fst
    ·have hs2:=(C8 binds 0 s).1 hs
     have hcnt:=HJ binds 0 s hs2
     obtain⟨k,hk1,hk2⟩:=zl (binds.map Bd.name) 0 s hs2
     have hkl:k<binds.length:=by have:=(List.getElem?_eq_some_iff.1 hk2).1;simpa using this
     rw[Nat.zero_add] at hk1
     rw[hk1] at hcnt h5
     have X:=And.intro aO hcnt
     simp only[List.length_cons,List.map_cons]
     (refine run ?_;with_reducible repeat' first|exact trivial|(apply aJ.mk<;>intro hb)|apply bN.mk)
     ·refine br (wq G (H.length+2) 0 out k _ (by rw[aH];rfl) (by omega)) ?_
      rintro r H' ⟨rfl,rfl⟩
      (refine run ?_;with_reducible repeat' first|exact trivial|(apply aJ.mk<;>intro hb)|apply bN.mk)
      ·have hpo:=JY binds out hkl hb
       have hfw:=ea (List.getElem_mem hkl)
       have hfg:=(binds[k]).dw
       have hfl:=lX binds[k].e
       rw[uD hkl] at hpo
       rw[if_pos ⟨hs2,hb⟩,Int.toNat_natCast,uD hkl] at h5
       refine br (zd G hG binds[k].e _ (by omega)) ?_
       rintro r H' ⟨rfl,rfl⟩
       simp only[List.append_assoc,List.cons_append,List.nil_append,List.length_append,List.length_cons,List.length_nil,List.length_set,X,Nat.reduceAdd]
       (refine run ?_)
       have hol:(out++[(k:Int)]).length≤binds.length:=by
        have hnd:(out++[(k:Int)]).Nodup:=List.nodup_append.2 ⟨h4,by simp,by simp;exact fun a ha e=>hb (e ▸ ha)⟩
        have h6:∀ i∈(out++[(k:Int)]),∃ q:Nat,q<binds.length∧i=q:=fun i hi=>by
         rcases List.mem_append.1 hi with hi|hi
         ·exact h3 i hi
         ·exact⟨k,hkl,List.mem_singleton.1 hi⟩
        have h7:((out++[(k:Int)]).map Int.toNat).Nodup:=List.pairwise_map.2 (hnd.imp_of_mem fun {p q} hp hq hne e=>hne (by
         obtain⟨a,_,rfl⟩:=h6 p hp
         obtain⟨b,_,rfl⟩:=h6 q hq
         exact congrArg _ (by simpa using e)))
        have:=kl (n:=binds.length) h7 (fun i hi=>by
         obtain⟨p,hp,rfl⟩:=List.mem_map.1 hi
         obtain⟨a,ha,rfl⟩:=h6 p hp
         simpa using ha)
        simpa using this
       refine hK _ _ (rest++de binds[k].e,out++[(k:Int)]) (by simp only[List.length_append,List.length_cons];omega) ⟨by simp only[List.length_append];omega,hol,fun i hi=>?_,List.nodup_append.2 ⟨h4,by simp,by simp;exact fun a ha e=>hb (e ▸ ha)⟩,?_⟩ ?_
       ·rcases List.mem_append.1 hi with hi|hi
        ·exact h3 i hi
        ·exact⟨k,hkl,List.mem_singleton.1 hi⟩
       ·rw[← h5]
        congr 1
        simp only[List.length_append];omega
       ·simp only[List.length_append,List.map_append,List.map_cons,List.map_nil,List.length_cons,List.length_nil]
        exact bI (n0:=H.length) [(H.length,0),(H.length+1,0),(H.length+2,0),(H.length+3,0)] hG hB hC' hcl
      ·rw[if_neg (fun h=>hb h.2)] at h5
       refine hK _ _ (rest,out) (by simp only[List.length_cons];omega) ⟨by simp only;omega,h2,h3,h4,h5⟩ ?_
       dsimp only
       exact bI (n0:=H.length) [(H.length,0),(H.length+1,0),(H.length+2,0),(H.length+3,1)] hG hB hC' hcl
     ·exact absurd hs hb
    ·have hs2:s∉binds.map Bd.name:=fun h=>hs ((C8 binds 0 s).2 h)
     rw[if_neg (fun h=>hs2 h.1)] at h5
     simp only[List.length_cons,List.map_cons]
     (refine run ?_;with_reducible repeat' first|exact trivial|(apply aJ.mk<;>intro hb)|apply bN.mk)
     ·exact absurd hb hs
     ·refine hK _ _ (rest,out) (by simp only[List.length_cons];omega) ⟨by simp only;omega,h2,h3,h4,h5⟩ ?_
      dsimp only
      exact bI (n0:=H.length) [(H.length,0),(H.length+1,0),(H.length+2,0),(H.length+3,1)] hG hB hC' hcl
end Go.Proofs.YtjdfoonhnmpkdaaGreatDoor
