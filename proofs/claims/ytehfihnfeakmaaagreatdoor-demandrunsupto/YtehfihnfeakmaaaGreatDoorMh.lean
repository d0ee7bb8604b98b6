/- A part of the proof: W1, W2, W3, W4, Shelf, W5, W6, Y4, Y5, Y6, Y7, Y9, D0, D3, I1, J1, J2, I2. Names and spaces are cut short by program. -/
import Derived.Test.YtehfihnfeakmaaaGreatDoorMg
import Derived.Sort.KeysCollected
import Derived.Shelf.Sort.Plain
import Derived.Shelf.Slices.In.SortNone
import Derived.Test.YtehfihnfeakmaaaGreatDoorProg
set_option linter.unusedSimpArgs false
set_option linter.unusedVariables false
set_option maxRecDepth 10000
set_option maxHeartbeats 4000000
namespace Go.Proofs.YtehfihnfeakmaaaGreatDoor
open Go
theorem yR (G:Gl) (hG:au G) (l:List aE) (H:List ax) (hl:l.length<1099511627776):af Tryz.prog G 57 [.list 1 (l.map .str)] H (fun r H'=>H'=H++[.cells 0 1 (l.map .str)]∧r= .sl H.length 0 0 l.length):=by
 refine af.aD TB [2,5] aA _ Tryz.func57 rfl (by decide) Tryz.ntmps57 (by simp) rfl (by simp only[ap,Nat.reduceAdd];rfl) fun C R' hR hC hcl hB=>?_;have X:=aF;have hC':=congrArg List.length hC
 (refine bL ?_;with_reducible repeat' first|exact trivial|(apply ad.mk<;>intro hb)|apply av.mk)
 ·obtain rfl:l=[]:=List.length_eq_zero_iff.1 hb
  exact dp [(H.length+1,0)] (.sl H.length 0 0 0) [.cells 0 1 []] hR hC' hcl ⟨rfl,rfl⟩
 ·exact dp [(H.length+1,0)] (.sl H.length 0 0 l.length) [.cells 0 1 (l.map .str)] hR hC' hcl ⟨rfl,rfl⟩
def aN:Ex→List (Ex×List aE)
 | .mk kd nm _ _ names ae binds alts=>ae.map (fun x=>(x,dR kd names binds))++(binds.map (fun b=>(b.e,dR kd names binds))++alts.map (fun a=>(a.body,a.names++if kd=6 then [nm] else [])))
theorem ud {kd:Int} {nm:aE} {nn op:Int} {names:List aE} {ae:List Ex} {binds:List Bd} {alts:List Al} {i:Nat} (h:i<ae.length):(aN (.mk kd nm nn op names ae binds alts))[i]? =some (ae[i],dR kd names binds):=by
 simp only[aN]
 rw[List.getElem?_append_left (by simpa using h),List.getElem?_map,List.getElem?_eq_getElem h];rfl
theorem sj {kd:Int} {nm:aE} {nn op:Int} {names:List aE} {ae:List Ex} {binds:List Bd} {alts:List Al} {i:Nat} (h:i<binds.length):(aN (.mk kd nm nn op names ae binds alts))[ae.length+i]? =some (binds[i].e,dR kd names binds):=by
 simp only[aN]
 rw[List.getElem?_append_right (by simp),List.length_map,Nat.add_sub_cancel_left,List.getElem?_append_left (by simpa using h),List.getElem?_map,List.getElem?_eq_getElem h];rfl
theorem uc {kd:Int} {nm:aE} {nn op:Int} {names:List aE} {ae:List Ex} {binds:List Bd} {alts:List Al} {i:Nat} (h:i<alts.length):(aN (.mk kd nm nn op names ae binds alts))[ae.length+binds.length+i]? =some (alts[i].body,alts[i].names++if kd=6 then [nm] else []):=by
 simp only[aN]
 rw[List.getElem?_append_right (by simp;omega),List.length_map,show ae.length+binds.length+i - ae.length=binds.length+i by omega,List.getElem?_append_right (by simp),List.length_map,Nat.add_sub_cancel_left,List.getElem?_map,List.getElem?_eq_getElem h];rfl
theorem BX (G:Gl) (hG:au G) (e:Ex) (hw:e.wt<549755813888) (fv:SV) (Hs:Nat→List ax) (n0:Nat) (hlen:∀ i,(Hs i).length=n0) (hfu:fv.under n0=true) (hcls:closed (Hs 0)→∀ i,closed (Hs i))
 (hy:∀ i p X,(aN e)[i]? =some p→bz Tryz.prog G fv [p.1.sv,.list 1 (p.2.map .str)] (Hs i++X) (fun r H'=>H'=Hs (i+1)++X)):
 af Tryz.prog G 95 [e.sv,fv] (Hs 0) (fun r H'=>H'=Hs (aN e).length):=by
 obtain⟨kd,nm,nn,op,names,ae,binds,alts⟩:=e
 have hle:=Ex.cm kd nm nn op names ae binds alts
 have hpl:(aN (Ex.mk kd nm nn op names ae binds alts)).length=ae.length+binds.length+alts.length:=by simp[aN];omega
 refine af.aD TB [4] aA _ Tryz.func95 rfl (by decide) Tryz.ntmps95 (by simp) rfl (by simp only[ap,Nat.reduceAdd];rfl) fun C R' hR hC hcl hB=>?_;have X:=aF;have hC':=congrArg List.length hC
 have hcl:=hcls hcl
 have hC':=hC'.trans (hlen 0)
 have X:=IT Hs n0 hlen
 (refine yd ?_;with_reducible repeat' first|exact trivial|(apply ad.mk<;>intro hb)|apply av.mk)
 refine dQ (fun _:Unit=>[(1,fv),(2,.ptr n0 0 0 0),(4,.list 1 ((dR kd names binds).map .str))]) (fun _=>Hs 0++[.cells 0 8 [.agg [.int .i64 kd,.str nm,.int .i64 nn,.int .i64 op,.list 1 (names.map .str),.list 8 (ag ae),.list 9 (ah binds),.list 12 (aw alts)]]]) (fun _=>True) (fun K hK=>?_) (fun _ _=>?_)
 ·(refine bL ?_;with_reducible repeat' first|exact trivial|(apply ad.mk<;>intro hb)|apply av.mk)
  ·refine hK _ _ () trivial ?_
   simp only[dR,if_pos hb]
   exact aY (n0:=n0) [(n0,0)] hG hB hC' (hcl 0)
  ·refine az (fun i:Nat=>[(1,fv),(2,.ptr n0 0 0 0),(23,.list 9 (ah binds)),(24,.int .i64 binds.length),(25,.int .i64 i),(4,.sl (n0+1) 0 0 i)])
    (fun i=>Hs 0++[.cells 0 8 [.agg [.int .i64 kd,.str nm,.int .i64 nn,.int .i64 op,.list 1 (names.map .str),.list 8 (ag ae),.list 9 (ah binds),.list 12 (aw alts)]],.cells 0 1 ((binds.take i).map fun b=> .str b.name)]) (fun i=>binds.length - i) (fun i=>i≤binds.length) 0 (Nat.zero_le _) ?_ ?_
   ·exact aY (n0:=n0) [(n0,0),(n0+1,0)] hG hB hC' (hcl 0)
   ·intro K2 i hi hK2
    (refine bL ?_;with_reducible repeat' first|exact trivial|(apply ad.mk<;>intro hb)|apply av.mk)
    ·refine hK2 _ _ (i+1) (by omega) (by omega) ?_
     simp only[List.take_succ_eq_append_getElem (show i<binds.length by omega),List.map_append,List.map_cons,List.map_nil]
     exact aY (n0:=n0) [(n0,0),(n0+1,0)] hG hB hC' (hcl 0)
    ·refine hK _ _ () trivial ?_
     obtain rfl:i=binds.length:=by omega
     have e1:dR kd names binds=binds.map Bd.name:=by simp[dR,‹kd=5›]
     simp only[e1,List.take_length,List.map_map]
     exact aY (n0:=n0) [(n0,0)] hG hB hC' (hcl 0)
  ·refine hK _ _ () trivial ?_
   simp only[dR,if_neg ‹¬ kd=3›,if_neg ‹¬ kd=5›,List.map_nil]
   exact aY (n0:=n0) [(n0,0)] hG hB hC' (hcl 0)
 ·(refine yd ?_;with_reducible repeat' first|exact trivial|(apply ad.mk<;>intro hb)|apply av.mk)
  refine dQ (fun _:Unit=>[(1,fv),(2,.ptr n0 0 0 0),(4,.list 1 ((dR kd names binds).map .str))]) (fun _=>Hs ae.length++[.cells 0 8 [.agg [.int .i64 kd,.str nm,.int .i64 nn,.int .i64 op,.list 1 (names.map .str),.list 8 (ag ae),.list 9 (ah binds),.list 12 (aw alts)]]]) (fun _=>True) (fun K hK=>?_) (fun _ _=>?_)
  ·(refine bL ?_;with_reducible repeat' first|exact trivial|(apply ad.mk<;>intro hb)|apply av.mk)
   refine az (fun i:Nat=>[(1,fv),(2,.ptr n0 0 0 0),(4,.list 1 ((dR kd names binds).map .str)),(36,.list 8 (ag ae)),(37,.int .i64 ae.length),(38,.int .i64 i)])
    (fun i=>Hs i++[.cells 0 8 [.agg [.int .i64 kd,.str nm,.int .i64 nn,.int .i64 op,.list 1 (names.map .str),.list 8 (ag ae),.list 9 (ah binds),.list 12 (aw alts)]]]) (fun i=>ae.length - i) (fun i=>i≤ae.length) 0 (Nat.zero_le _) ?_ ?_
   ·exact aY (n0:=n0) [(n0,0)] hG hB hC' (hcl 0)
   ·intro K2 i hi hK2
    (refine bL ?_;with_reducible repeat' first|exact trivial|(apply ad.mk<;>intro hb)|apply av.mk)
    ·refine eX (hy i _ _ (ud (by omega))) ?_
     rintro r H' rfl
     (refine bL ?_;with_reducible repeat' first|exact trivial|(apply ad.mk<;>intro hb)|apply av.mk)
     refine hK2 _ _ (i+1) (by omega) (by omega) ?_
     exact aY (n0:=n0) [(n0,0)] hG hB hC' (hcl (i+1))
    ·obtain rfl:i=ae.length:=by omega
     refine hK _ _ () trivial ?_
     exact aY (n0:=n0) [(n0,0)] hG hB hC' (hcl _)
  ·(refine yd ?_;with_reducible repeat' first|exact trivial|(apply ad.mk<;>intro hb)|apply av.mk)
   refine dQ (fun _:Unit=>[(1,fv),(2,.ptr n0 0 0 0),(4,.list 1 ((dR kd names binds).map .str))]) (fun _=>Hs (ae.length+binds.length)++[.cells 0 8 [.agg [.int .i64 kd,.str nm,.int .i64 nn,.int .i64 op,.list 1 (names.map .str),.list 8 (ag ae),.list 9 (ah binds),.list 12 (aw alts)]]]) (fun _=>True) (fun K hK=>?_) (fun _ _=>?_)
   ·(refine bL ?_;with_reducible repeat' first|exact trivial|(apply ad.mk<;>intro hb)|apply av.mk)
    refine az (fun i:Nat=>[(1,fv),(2,.ptr n0 0 0 0),(4,.list 1 ((dR kd names binds).map .str)),(48,.list 9 (ah binds)),(49,.int .i64 binds.length),(50,.int .i64 i)])
     (fun i=>Hs (ae.length+i)++[.cells 0 8 [.agg [.int .i64 kd,.str nm,.int .i64 nn,.int .i64 op,.list 1 (names.map .str),.list 8 (ag ae),.list 9 (ah binds),.list 12 (aw alts)]]]) (fun i=>binds.length - i) (fun i=>i≤binds.length) 0 (Nat.zero_le _) ?_ ?_
    ·exact aY (n0:=n0) [(n0,0)] hG hB hC' (hcl _)
    ·intro K2 i hi hK2
     (refine bL ?_;with_reducible repeat' first|exact trivial|(apply ad.mk<;>intro hb)|apply av.mk)
     ·refine eX (hy (ae.length+i) _ _ (sj (by omega))) ?_
      rintro r H' rfl
      (refine bL ?_;with_reducible repeat' first|exact trivial|(apply ad.mk<;>intro hb)|apply av.mk)
      refine hK2 _ _ (i+1) (by omega) (by omega) ?_
      exact aY (n0:=n0) [(n0,0)] hG hB hC' (hcl _)
     ·obtain rfl:i=binds.length:=by omega
      refine hK _ _ () trivial ?_
      exact aY (n0:=n0) [(n0,0)] hG hB hC' (hcl _)
   ·(refine bL ?_;with_reducible repeat' first|exact trivial|(apply ad.mk<;>intro hb)|apply av.mk)
    refine az (fun i:Nat=>[(1,fv),(2,.ptr n0 0 0 0),(61,.list 12 (aw alts)),(62,.int .i64 alts.length),(63,.int .i64 i)])
     (fun i=>Hs (ae.length+binds.length+i)++[.cells 0 8 [.agg [.int .i64 kd,.str nm,.int .i64 nn,.int .i64 op,.list 1 (names.map .str),.list 8 (ag ae),.list 9 (ah binds),.list 12 (aw alts)]]]) (fun i=>alts.length - i) (fun i=>i≤alts.length) 0 (Nat.zero_le _) ?_ ?_
    ·exact aY (n0:=n0) [(n0,0)] hG hB hC' (hcl _)
    ·intro K2 i hi hK2
     (refine bL ?_;with_reducible repeat' first|exact trivial|(apply ad.mk<;>intro hb)|apply av.mk)
     ·have hi':i<alts.length:=by omega
      have hnl:=Al.hY (kd:=kd) (nm:=nm) (nn:=nn) (op:=op) (names:=names) (ae:=ae) (binds:=binds) hi'
      refine bt (yR G hG alts[i].names _ (by omega)) ?_
      rintro r H' ⟨rfl,rfl⟩
      simp only[List.append_assoc,List.cons_append,List.nil_append,List.length_append,List.length_cons,List.length_nil,List.length_set,X,Nat.reduceAdd]
      (refine dW ?_;with_reducible repeat' first|exact trivial|(apply ad.mk<;>intro hb)|apply av.mk)
      refine dQ (fun _:Unit=>[(1,fv),(2,.ptr n0 0 0 0),(61,.list 12 (aw alts)),(62,.int .i64 alts.length),(63,.int .i64 i),(12,.ptr (n0+1) 0 0 0),(13,.list 1 ((alts[i].names++if kd=6 then [nm] else []).map .str))])
       (fun _=>Hs (ae.length+binds.length+i)++[.cells 0 8 [.agg [.int .i64 kd,.str nm,.int .i64 nn,.int .i64 op,.list 1 (names.map .str),.list 8 (ag ae),.list 9 (ah binds),.list 12 (aw alts)]],.cells 0 12 [.agg (.int .i64 alts[i].kind:: .str alts[i].name:: .int .i64 alts[i].n:: .list 1 (alts[i].names.map .str)::alts[i].body.cells)]]) (fun _=>True) (fun K3 hK3=>?_) (fun _ _=>?_)
      ·(refine bL ?_;with_reducible repeat' first|exact trivial|(apply ad.mk<;>intro hb)|apply av.mk)
       ·refine hK3 _ _ () trivial ?_
        simp only[if_pos hb,List.map_append,List.map_cons,List.map_nil,Nat.add_assoc]
        exact aY (n0:=n0) [(n0,0),(n0+1,0)] hG hB hC' (hcl _)
       ·refine hK3 _ _ () trivial ?_
        simp only[if_neg hb,List.append_nil,Nat.add_assoc]
        exact aY (n0:=n0) [(n0,0),(n0+1,0)] hG hB hC' (hcl _)
      ·(refine bL ?_;with_reducible repeat' first|exact trivial|(apply ad.mk<;>intro hb)|apply av.mk)
       refine eX (hy (ae.length+binds.length+i) _ _ (uc hi')) ?_
       rintro r H' rfl
       (refine bL ?_;with_reducible repeat' first|exact trivial|(apply ad.mk<;>intro hb)|apply av.mk)
       refine hK2 _ _ (i+1) (by omega) (by omega) ?_
       exact aY (n0:=n0) [(n0,0)] hG hB hC' (hcl _)
     ·obtain rfl:i=alts.length:=by omega
      refine Fin.bY (n0:=n0) hR (hlen _) hC' (hcl _) (.same _ rfl) ?_
      rw[hpl]
def cv:List (aE×Int)→aE→Int
 |[],_=>0
 |(k,n)::r,s=>if s=k then n else cv r s
def mN:List (aE×Int)→aE→Int→List (aE×Int)
 |[],s,n=>[(s,n)]
 |(k,m)::r,s,n=>if s=k then (s,n)::r else (k,m)::mN r s n
def pD (l:List (aE×Int)):List (SV×SV):=l.map fun p=>(.str p.1,.int .i64 p.2)
def fz (l:List aE) (s:aE):List aE:=if s∈l then l else l++[s]
def kF (l:List aE):List (SV×SV):=l.map fun s=>(.str s,.bool true)
theorem qL:∀ (l:List (aE×Int)) (s:aE),(bI (pD l) (.str s)).getD (.int .i64 0)= .int .i64 (cv l s)
 |[],s=>rfl
 |(k,n)::r,s=>by
  simp only[pD,List.map_cons,bI,SV.dX,cv]
  by_cases h:s=k
  ·simp[h]
  ·simp only[beq_eq_false_iff_ne.2 h,h,if_false,Bool.false_eq_true]
   exact qL r s
theorem oR:∀ (l:List (aE×Int)) (s:aE) (n:Int),cG (pD l) (.str s) (.int .i64 n)=pD (mN l s n)
 |[],s,n=>rfl
 |(k,m)::r,s,n=>by
  simp only[pD,List.map_cons,cG,SV.dX,mN]
  by_cases h:s=k
  ·simp[h]
  ·simp only[beq_eq_false_iff_ne.2 h,h,if_false,Bool.false_eq_true]
   rw[show cG (List.map _ r) (.str s) (.int .i64 n)=_ from oR r s n]
   rfl
theorem lY:∀ (l:List aE) (s:aE),cG (kF l) (.str s) (.bool true)=kF (fz l s)
 |[],s=>rfl
 |k::r,s=>by
  simp only[kF,List.map_cons,cG,SV.dX,fz]
  by_cases h:s=k
  ·simp[h]
  ·simp only[beq_eq_false_iff_ne.2 h,if_false,Bool.false_eq_true]
   rw[show cG (List.map _ r) (.str s) (.bool true)=_ from lY r s]
   simp only[kF,fz,List.mem_cons,h,false_or]
   split<;>rfl
theorem mX:∀ (l:List (aE×Int)) (s:aE) (n:Int) (t:aE),cv (mN l s n) t=if t=s then n else cv l t
 |[],s,n,t=>by simp[mN,cv]
 |(k,m)::r,s,n,t=>by
  by_cases h:s=k
  ·subst h
   by_cases ht:t=s<;>simp[mN,cv,ht]
  ·simp only[mN,if_neg h,cv,mX r s n t]
   by_cases ht:t=k
   ·subst ht
    rw[if_pos rfl,if_neg (fun e=>h e.symm)]
    rw[if_pos rfl]
   ·rw[if_neg ht,if_neg ht]
def iL (b:List (aE×Int)) (l:List aE):List (aE×Int):=l.foldl (fun b n=>mN b n (cv b n+1)) b
def sS (b:List (aE×Int)) (l:List aE):List (aE×Int):=l.foldl (fun b n=>mN b n (cv b n - 1)) b
theorem gl:∀ (l:List aE) (b:List (aE×Int)) (s:aE),cv (iL b l) s=cv b s+l.count s
 |[],b,s=>by simp[iL]
 |x::l,b,s=>by
  rw[iL,List.foldl_cons,← iL,gl l,mX,List.count_cons]
  by_cases h:s=x
  ·subst h;simp;omega
  ·have h2:¬ x=s:=fun e=>h e.symm
   simp[h,h2]
theorem pH:∀ (l:List aE) (b:List (aE×Int)) (s:aE),cv (sS b l) s=cv b s - l.count s
 |[],b,s=>by simp[sS]
 |x::l,b,s=>by
  rw[sS,List.foldl_cons,← sS,pH l,mX,List.count_cons]
  by_cases h:s=x
  ·subst h;simp;omega
  ·have h2:¬ x=s:=fun e=>h e.symm
   simp[h,h2]
theorem Du (b:List (aE×Int)) (l:List aE) (x:aE):iL b (l++[x])=mN (iL b l) x (cv (iL b l) x+1):=by simp[iL]
theorem CR (b:List (aE×Int)) (l:List aE) (x:aE):sS b (l++[x])=mN (sS b l) x (cv (sS b l) x - 1):=by simp[sS]
abbrev BO:=List (aE×Int)×List aE
def eO (f:Ex→BO→BO) (st:BO) (p:Ex×List aE):BO:=(sS (f p.1 (iL st.1 p.2,st.2)).1 p.2,(f p.1 (iL st.1 p.2,st.2)).2)
def dr:Nat→Ex→BO→BO
 |0,_,st=>st
 |m+1,e,st=>if e.kind=1 then (if cv st.1 e.name=0 then (st.1,fz st.2 e.name) else st) else (aN e).foldl (eO (dr m)) st
theorem vI:∀ (m:Nat) (e:Ex) (st:BO) (s:aE),cv (dr m e st).1 s=cv st.1 s
 |0,e,st,s=>rfl
 |m+1,e,st,s=>by
  rw[dr]
  split
  ·split<;>rfl
  ·generalize aN e=l
   induction l generalizing st with
   |nil=>rfl
   |cons p l ih=>
    rw[List.foldl_cons,ih]
    simp only[eO,pH,vI m,gl]
    omega
theorem lN (m:Nat) (st:BO) (p:Ex×List aE) (s:aE):cv (eO (dr m) st p).1 s=cv st.1 s:=by
 simp only[eO,pH,vI m,gl]
 omega
theorem qA (m:Nat):∀ (l:List (Ex×List aE)) (st:BO) (s:aE),cv (l.foldl (eO (dr m)) st).1 s=cv st.1 s
 |[],st,s=>rfl
 |p::l,st,s=>by rw[List.foldl_cons,qA m l,lN]
theorem sk {e:Ex} {p:Ex×List aE} (h:p∈aN e):p.1.wt+p.2.length<e.wt:=by
 obtain⟨kd,nm,nn,op,names,ae,binds,alts⟩:=e
 have h1:=ff names
 have h2:∀ (l:List Bd) (b:Bd),b∈l→b.e.wt+l.length≤aM l:=fun l=>by
  induction l with
  |nil=>intro b hb;cases hb
  |cons x r ih=>
   intro b hb
   simp only[aM,List.length_cons]
   have hx:=x.di
   rcases List.mem_cons.1 hb with rfl|hb
   ·have:=cC r;omega
   ·have:=ih b hb;omega
 have hown:(dR kd names binds).length≤db names+binds.length:=by
  unfold dR
  split
  ·omega
  ·split<;>simp
 have h3:=cC binds
 simp only[Ex.wt]
 simp only[aN,List.mem_append,List.mem_map] at h
 rcases h with⟨x,hx,rfl⟩|⟨b,hb,rfl⟩|⟨a,ha,rfl⟩
 ·have:=eo hx
  simp only;omega
 ·have:=h2 binds b hb
  simp only
  have:(dR kd names binds).length≤db names+binds.length:=hown
  unfold dR
  split
  ·omega
  ·split
   ·simp;omega
   ·simp;omega
 ·have h4:=ek ha
  obtain⟨ak,an,am,al,ab⟩:=a
  simp only[Al.wt] at h4
  simp only[Al.body,Al.names,List.length_append]
  have:=ff al
  split<;>simp<;>omega
def UH (H:List ax) (ib io:Nat) (st:BO):List ax:=(H.set ib (.map none (pD st.1))).set io (.map none (kF st.2))
theorem fE (n:Nat):∀ l:List (aE×Int),cY n (pD l)=true
 |[]=>rfl
 |p::l=>by simp only[pD,List.map_cons,cY,SV.under,Bool.and_self,Bool.true_and];exact fE n l
theorem gA (n:Nat):∀ l:List aE,cY n (kF l)=true
 |[]=>rfl
 |p::l=>by simp only[kF,List.map_cons,cY,SV.under,Bool.and_self,Bool.true_and];exact gA n l
structure gF (M:BO→List ax) (n0 ib io:Nat):Prop where
 len:∀ st,(M st).length=n0
 lt:ib<n0∧io<n0∧ib≠io
 get:∀ st,(M st)[ib]? =some (.map none (pD st.1))∧(M st)[io]? =some (.map none (kF st.2))
 set:∀ st b o,(M st).set ib (.map none (pD b))=M (b,st.2)∧(M st).set io (.map none (kF o))=M (st.1,o)
 rest:∀ st st' i,i≠ib→i≠io→(M st)[i]? =(M st')[i]?
theorem E2 {H:List ax} {ib io:Nat} {st0:BO} (hb:H[ib]? =some (.map none (pD st0.1))) (ho:H[io]? =some (.map none (kF st0.2))) (hne:ib≠io):gF (UH H ib io) H.length ib io∧UH H ib io st0=H:=by
 have lb:=(List.getElem?_eq_some_iff.1 hb).1
 have lo:=(List.getElem?_eq_some_iff.1 ho).1
 refine⟨⟨fun st=>by simp[UH],⟨lb,lo,hne⟩,fun st=>⟨?_,?_⟩,fun st b o=>⟨?_,?_⟩,fun st st' i h1 h2=>?_⟩,?_⟩
 ·simp only[UH]
  rw[List.getElem?_set_ne (fun e=>hne e.symm),List.getElem?_set_self lb]
 ·simp only[UH]
  rw[List.getElem?_set_self (by simpa using lo)]
 ·simp only[UH]
  rw[List.set_comm _ _ (fun e=>hne e.symm),List.set_set]
 ·simp only[UH]
  rw[List.set_set]
 ·simp only[UH]
  rw[List.getElem?_set_ne (fun e=>h2 e.symm),List.getElem?_set_ne (fun e=>h1 e.symm),List.getElem?_set_ne (fun e=>h2 e.symm),List.getElem?_set_ne (fun e=>h1 e.symm)]
 ·simp only[UH]
  rw[eg hb,eg ho]
theorem gF.Lt {M:BO→List ax} {n0 ib io:Nat} (h:gF M n0 ib io) {st st':BO} (hc:closed (M st)):closed (M st'):=by
 intro B hB
 obtain⟨i,hi,rfl⟩:=List.getElem_of_mem hB
 have hi2:i<(M st).length:=by rw[h.len] at hi ⊢;exact hi
 have hl:(M st').length=(M st).length:=by rw[h.len,h.len]
 have hg:(M st')[i]? =some (M st')[i]:=List.getElem?_eq_getElem hi
 rw[hl]
 show ax.under _ ((M st')[i])=true
 by_cases h1:i=ib
 ·subst h1;rw[(h.get st').1] at hg;rw[← Option.some.inj hg];exact fE _ _
 ·by_cases h2:i=io
  ·subst h2;rw[(h.get st').2] at hg;rw[← Option.some.inj hg];exact gA _ _
  ·rw[h.rest st' st i h1 h2,List.getElem?_eq_getElem hi2] at hg
   rw[← Option.some.inj hg]
   exact hc _ (List.getElem_mem hi2)
theorem gF.app {M:BO→List ax} {n0 ib io:Nat} (h:gF M n0 ib io) (L:List ax):gF (fun st=>M st++L) (n0+L.length) ib io:=by
 have lb:∀ st,ib<(M st).length:=fun st=>by rw[h.len];exact h.lt.1
 have lo:∀ st,io<(M st).length:=fun st=>by rw[h.len];exact h.lt.2.1
 refine⟨fun st=>by simp[h.len],⟨by have:=h.lt.1;omega,by have:=h.lt.2.1;omega,h.lt.2.2⟩,fun st=>⟨?_,?_⟩,fun st b o=>⟨?_,?_⟩,fun st st' i h1 h2=>?_⟩
 ·rw[List.getElem?_append_left (lb st)];exact(h.get st).1
 ·rw[List.getElem?_append_left (lo st)];exact(h.get st).2
 ·rw[eN (lb st),(h.set st b o).1]
 ·rw[eN (lo st),(h.set st b o).2]
 ·rw[List.getElem?_append,List.getElem?_append,h.len,h.len,h.rest st st' i h1 h2]
theorem gF.UH {M:BO→List ax} {n0 ib io:Nat} (h:gF M n0 ib io) (st st':BO):UH (M st) ib io st'=M st':=by
 simp only[Go.Proofs.YtehfihnfeakmaaaGreatDoor.UH]
 rw[(h.set st st'.1 []).1,(h.set _ [] st'.2).2]
theorem gF.X {M:BO→List ax} {n0 ib io:Nat} (h:gF M n0 ib io):((∀ st L,(M st++L)[ib]? =some (.map none (pD st.1)))∧(∀ st L,(M st++L)[io]? =some (.map none (kF st.2))))∧
 ((∀ st b L,(M st++L).set ib (.map none (pD b))=M (b,st.2)++L)∧(∀ st o L,(M st++L).set io (.map none (kF o))=M (st.1,o)++L))∧
 ((∀ st b,(M st).set ib (.map none (pD b))=M (b,st.2))∧(∀ st o,(M st).set io (.map none (kF o))=M (st.1,o)))∧
 ((∀ st,(M st)[ib]? =some (.map none (pD st.1)))∧(∀ st,(M st)[io]? =some (.map none (kF st.2))))∧
 ((∀ st,(M st).length=n0)∧(∀ st L,(M st++L)[n0]? =L[0]?)∧(∀ st L k,(M st++L)[n0+k]? =L[k]?)∧(∀ st L x,(M st++L).set n0 x=M st++L.set 0 x)∧(∀ st L k x,(M st++L).set (n0+k) x=M st++L.set k x)):=by
 have lb:∀ st,ib<(M st).length:=fun st=>by rw[h.len];exact h.lt.1
 have lo:∀ st,io<(M st).length:=fun st=>by rw[h.len];exact h.lt.2.1
 exact⟨⟨fun st L=>by rw[List.getElem?_append_left (lb st)];exact(h.get st).1,fun st L=>by rw[List.getElem?_append_left (lo st)];exact(h.get st).2⟩,
  ⟨fun st b L=>by rw[eN (lb st),(h.set st b []).1],fun st o L=>by rw[eN (lo st),(h.set st [] o).2]⟩,
  ⟨fun st b=>(h.set st b []).1,fun st o=>(h.set st [] o).2⟩,
  ⟨fun st=>(h.get st).1,fun st=>(h.get st).2⟩,IT M n0 h.len⟩
attribute [go_sem] qL oR lY
def GF (b:List (aE×Int)) (w:Nat):Prop:=∀ s,0≤cv b s∧cv b s+w<1099511627776
def Gw (G:Gl) (f:Ex→BO→BO) (e:Ex):Prop:=∀ (H:List ax) (ib io:Nat) (st:BO),H[ib]? =some (.map none (pD st.1))→H[io]? =some (.map none (kF st.2))→ib≠io→GF st.1 e.wt→
 af Tryz.prog G 40 [e.sv,.map ib,.map io] H (fun r H'=>H'=UH H ib io (f e st))
theorem yp (G:Gl) (hG:au G) (f:Ex→BO→BO) (s:Ex) (names:List aE) (hf:Gw G f s) (hfc:∀ st t,cv (f s st).1 t=cv st.1 t) (M:BO→List ax) (n0 ib io pb po:Nat) (hM:gF M n0 ib io)
 (hpb:∀ st L,(M st++L)[pb]? =some (.cells 0 1 [.map ib])) (hpo:∀ st L,(M st++L)[po]? =some (.cells 0 1 [.map io])) (hp:pb<n0∧po<n0) (st:BO) (hc:GF st.1 (s.wt+names.length)) (hw:s.wt+names.length<549755813888):
 af Tryz.prog G 96 [s.sv,.list 1 (names.map .str),.ptr pb 0 0 0,.ptr po 0 0 0] (M st) (fun r H'=>H'=M (eO f st (s,names))):=by
 refine af.aD TB [] aA _ Tryz.func96 rfl (by decide) Tryz.ntmps96 (by simp) rfl (by simp only[ap,Nat.reduceAdd];rfl) fun C R' hR hC hcl hB=>?_;have X:=aF;have hC':=congrArg List.length hC
 have hC':=hC'.trans (hM.len st)
 have X:=And.intro hM.X (And.intro hpb hpo)
 have hlen:=hM.len
 have hcls:∀ st',closed (M st'):=fun st'=>hM.Lt hcl
 have hc2:=hc
 (refine bL ?_;with_reducible repeat' first|exact trivial|(apply ad.mk<;>intro hb)|apply av.mk)
 refine az (fun i:Nat=>[(1,.list 1 (names.map .str)),(2,.ptr pb 0 0 0),(3,.ptr po 0 0 0),(4,.ptr n0 0 0 0),(10,.list 1 (names.map .str)),(11,.int .i64 names.length),(12,.int .i64 i)])
  (fun i=>M (iL st.1 (names.take i),st.2)++[.cells 0 8 [s.sv]]) (fun i=>names.length - i) (fun i=>i≤names.length) 0 (Nat.zero_le _) ?_ ?_
 ·exact aY (n0:=n0) [(n0,0)] hG hB hC' (hcls _)
 ·intro K i hi hK
  (refine bL ?_;with_reducible repeat' first|exact trivial|(apply ad.mk<;>intro hb)|apply av.mk)
  ·have hi':i<names.length:=by omega
   have h1:=gl (names.take i) st.1 names[i]
   have h2:=hc2 names[i]
   have h3:(names.take i).count names[i]≤(names.take i).length:=List.count_le_length
   rw[List.length_take] at h3
   rw[wrap_i64 _ (by omega),← Du,← List.take_succ_eq_append_getElem hi']
   exact hK _ _ (i+1) (by omega) (by omega) (aY (n0:=n0) [(n0,0)] hG hB hC' (hcls _))
  ·obtain rfl:i=names.length:=by omega
   rw[List.take_length]
   have hcall:=hf (M (iL st.1 names,st.2)++[.cells 0 8 [s.sv]]) ib io (iL st.1 names,st.2) (hM.X.1.1 _ _) (hM.X.1.2 _ _) hM.lt.2.2 (fun t=>by
    have h1:=gl names st.1 t
    have h2:=hc2 t
    have h3:names.count t≤names.length:=List.count_le_length
    simp only
    omega)
   rw[(hM.app _).UH] at hcall
   refine bt hcall ?_
   rintro r H' rfl
   generalize hst2:f s (iL st.1 names,st.2)=st2
   have hcn:∀ t,cv st2.1 t=cv st.1 t+names.count t:=fun t=>by rw[← hst2,hfc,gl]
   (refine bL ?_;with_reducible repeat' first|exact trivial|(apply ad.mk<;>intro hb)|apply av.mk)
   refine az (fun i:Nat=>[(2,.ptr pb 0 0 0),(25,.list 1 (names.map .str)),(26,.int .i64 names.length),(27,.int .i64 i)])
    (fun i=>M (sS st2.1 (names.take i),st2.2)++[]) (fun i=>names.length - i) (fun i=>i≤names.length) 0 (Nat.zero_le _) ?_ ?_
   ·exact aY (n0:=n0) [] hG hB hC' (hcls _)
   ·intro K2 i hi hK2
    (refine bL ?_;with_reducible repeat' first|exact trivial|(apply ad.mk<;>intro hb)|apply av.mk)
    ·have hi':i<names.length:=by omega
     have h1:=pH (names.take i) st2.1 names[i]
     rw[hcn] at h1
     have h2:=hc2 names[i]
     have h3:(names.take i).count names[i]≤(names.take i).length:=List.count_le_length
     have h4:names.count names[i]≤names.length:=List.count_le_length
     rw[List.length_take] at h3
     rw[wrap_i64 _ (by omega),← CR,← List.take_succ_eq_append_getElem hi']
     exact hK2 _ _ (i+1) (by omega) (by omega) (aY (n0:=n0) [] hG hB hC' (hcls _))
    ·obtain rfl:i=names.length:=by omega
     rw[List.take_length]
     refine Fin.bY (n0:=n0) hR (hlen _) hC' (hcls _) (.same _ rfl) ?_
     simp only[eO,hst2]
theorem mP (G:Gl) (hG:au G):∀ (m:Nat) (e:Ex),e.wt≤m→e.wt<549755813888→Gw G (dr m) e
 |0,e,hw,_=>by have:=e.b9;omega
 |m+1,e,hw,hw0=>by
  intro H ib io st hb ho hne hc
  obtain⟨kd,nm,nn,op,names,ae,binds,alts⟩:=e
  obtain⟨hM,hM0⟩:=E2 hb ho hne
  generalize UH H ib io=M at hM hM0 ⊢
  have hlt:=hM.lt
  have hlen:=hM.len
  rw[← hM0]
  refine af.aD TB [] aA _ Tryz.func40 rfl (by decide) Tryz.ntmps40 (by simp) rfl (by simp only[ap,Nat.reduceAdd];rfl) fun C R' hR hC hcl hB=>?_;have X:=aF;have hC':=congrArg List.length hC
  have hC':=hC'.trans (hlen st)
  generalize H.length=n0 at hM hlt hlen hC' ⊢
  have X:=hM.X
  have hcls:∀ st',closed (M st'):=fun st'=>hM.Lt hcl
  have hu:kd≠1→dr (m+1) (.mk kd nm nn op names ae binds alts) st=(aN (.mk kd nm nn op names ae binds alts)).foldl (eO (dr m)) st:=fun h=>by rw[dr];exact if_neg h
  have hv:kd=1→dr (m+1) (.mk kd nm nn op names ae binds alts) st=if cv st.1 nm=0 then (st.1,fz st.2 nm) else st:=fun h=>by rw[dr];exact if_pos h
  (refine run ?_;with_reducible repeat' first|exact trivial|(apply ad.mk<;>intro hb)|apply av.mk)
  ·refine Fin.bY (n0:=n0) hR (hlen _) hC' (hcls _) (.same _ rfl) ?_
   have h3:= ‹(decide (kd=1)&&decide (cv st.1 nm=0))=true›
   simp only[Bool.and_eq_true,decide_eq_true_eq] at h3
   rw[hv hb,if_pos h3.2]
  ·exfalso;simp_all
  ·refine Fin.bY (n0:=n0) hR (hlen _) hC' (hcls _) (.same _ rfl) ?_
   have h3:= ‹(decide (kd=1)&&decide (cv st.1 nm=0))=false›
   simp only[Bool.and_eq_false_iff,decide_eq_false_iff_not] at h3
   rw[hv hb,if_neg (by rcases h3 with h3|h3;exact absurd hb h3;exact h3)]
  ·let stI:Nat→BO:=fun i=>((aN (.mk kd nm nn op names ae binds alts)).take i).foldl (eO (dr m)) st
   have hsc:=BX G hG (.mk kd nm nn op names ae binds alts) hw0 (.fn (.func 96) [] [.ptr (n0+1) 0 0 0,.ptr (n0+2) 0 0 0])
    (fun i=>M (stI i)++[.cells 0 8 [.agg [.int .i64 kd,.str nm,.int .i64 nn,.int .i64 op,.list 1 (names.map .str),.list 8 (ag ae),.list 9 (ah binds),.list 12 (aw alts)]],.cells 0 1 [.map ib],.cells 0 1 [.map io]]) (n0+3) (fun i=>by simp[hlen]) (by simp[SV.under,SV.aB]) (fun hc i=>(hM.app _).Lt hc) (fun i p Y hp=>by
     refine bz.of ?_
     have hpm:=List.mem_of_getElem? hp
     have hpw:=sk hpm
     have hst:stI (i+1)=eO (dr m) (stI i) p:=by
      have hi:=(List.getElem?_eq_some_iff.1 hp)
      obtain⟨hi1,hi2⟩:=hi
      simp only[stI,List.take_succ_eq_append_getElem hi1,List.foldl_append,List.foldl_cons,List.foldl_nil,hi2]
     have:=yp G hG (dr m) p.1 p.2 (mP G hG m p.1 (by omega) (by omega)) (fun st t=>vI m p.1 st t) (fun st=>(M st++[.cells 0 8 [.agg [.int .i64 kd,.str nm,.int .i64 nn,.int .i64 op,.list 1 (names.map .str),.list 8 (ag ae),.list 9 (ah binds),.list 12 (aw alts)]],.cells 0 1 [.map ib],.cells 0 1 [.map io]])++Y) _ ib io (n0+1) (n0+2) ((hM.app _).app Y)
      (fun st L=>by simp only[List.append_assoc,List.cons_append,X,List.getElem?_cons_succ,List.getElem?_cons_zero]) (fun st L=>by simp only[List.append_assoc,List.cons_append,X,List.getElem?_cons_succ,List.getElem?_cons_zero]) (by simp;omega) (stI i) (fun t=>by
       have h1:=qA m ((aN (.mk kd nm nn op names ae binds alts)).take i) st t
       have h2:=hc t
       show 0≤cv (List.foldl (eO (dr m)) st _).1 t∧cv (List.foldl (eO (dr m)) st _).1 t+_<_
       omega) (by omega)
     simp only[hst]
     exact this)
   simp only[show stI 0=st from rfl] at hsc
   refine bt hsc ?_
   rintro r H' rfl
   have hend:stI (aN (.mk kd nm nn op names ae binds alts)).length=dr (m+1) (.mk kd nm nn op names ae binds alts) st:=by
    rw[hu hb];simp only[stI,List.take_length]
   simp only[hend]
   (refine run ?_;with_reducible repeat' first|exact trivial|(apply ad.mk<;>intro hb)|apply av.mk)
   exact Fin.bY (n0:=n0) hR (hlen _) hC' (hcls _) (.same _ rfl) rfl
theorem DQ {l:List aE} {born:List Nat} {idx:List Nat} (hnd:idx.Nodup) (hlt:∀ i∈idx,i<l.length) (hb:born.Nodup) (hlb:born.length=l.length)
 (hall:∀ b∈born,(idx.map fun i=>born.getD i 0).toArray.contains b=true):(idx.map fun i=>l.getD i []).Perm l:=by
 have hin:∀ i,i<l.length→i∈idx:=fun i hi=>by
  have hi':i<born.length:=by omega
  have:=hall born[i] (List.getElem_mem hi')
  simp only[List.contains_toArray,List.contains_iff_mem,List.mem_map] at this
  obtain⟨j,hj,e⟩:=this
  have hj':j<born.length:=by have:=hlt j hj;omega
  rw[List.getD_eq_getElem?_getD,List.getElem?_eq_getElem hj'] at e
  simp only[Option.getD_some] at e
  obtain rfl:j=i:=(List.getElem_inj hb).1 e
  exact hj
 have hp:idx.Perm (List.range l.length):=(List.perm_ext_iff_of_nodup hnd List.nodup_range).2 fun i=>by
  rw[List.mem_range];exact⟨hlt i,hin i⟩
 have:=hp.map fun i=>l.getD i []
 refine this.trans (.of_eq ?_)
 apply List.ext_getElem?
 intro i
 rw[List.getElem?_map]
 by_cases h:i<l.length
 ·rw[List.getElem?_range h];simp[h]
 ·rw[List.getElem?_eq_none (by simpa using h),List.getElem?_eq_none (by omega)];rfl
theorem DP {n:Nat} {idx:List Nat} (hnd:idx.Nodup) (hlt:∀ i∈idx,i<n):idx.length≤n:=by
 have hp:idx.Perm ((List.range n).filter fun i=>decide (i∈idx)):=(List.perm_ext_iff_of_nodup hnd (List.nodup_range.filter _)).2 fun i=>by
  simp only[List.mem_filter,List.mem_range,decide_eq_true_eq]
  exact⟨fun h=>⟨hlt i h,h⟩,fun h=>h.2⟩
 have h2:=List.length_filter_le (fun i=>decide (i∈idx)) (List.range n)
 rw[← hp.length_eq,List.length_range] at h2
 exact h2
theorem DA (G:Gl) (hG:au G) (n1 pb n0 bm clk:Nat) (born:List Nat) (l:List aE) (vs:List SV) (hlb:born.length=l.length) (hlv:vs.length=l.length) (hnd:born.Nodup) (M:List aE→List ax) (hlen:∀ s,(M s).length=n0) (h1:n1<n0) (hll:l.length<1099511627776)
 (hpb:∀ s L,(M s++L)[pb]? =some (.cells 0 1 [.fe bm clk born none (l.map .str) vs])) (hvs:∀ n,SV.aB n vs=true) (hcls:closed (M [])→∀ s,closed (M s))
 (hy:∀ s x X,s.length<l.length→bz Tryz.prog G (.it n1) [.str x] (M s++X) (fun r H'=>H'=M (s++[x])++X∧r= .bool true)):
 af Tryz.prog G 98 [.it n1,.ptr pb 0 0 0] (M []) (fun r H'=>∃ s,s.Perm l∧H'=M s):=by
 refine af.aD TB [] aA _ Tryz.func98 rfl (by decide) Tryz.ntmps98 (by simp) rfl (by simp only[ap,Nat.reduceAdd];rfl) fun C R' hR hC hcl hB=>?_;have X:=aF;have hC':=congrArg List.length hC
 have hC':=hC'.trans (hlen [])
 have hcl:=hcls hcl
 have hpb0:∀ s,(M s)[pb]? =some (.cells 0 1 [.fe bm clk born none (l.map .str) vs]):=fun s=>by simpa using hpb s []
 have X:=And.intro (IT M n0 hlen) (And.intro hpb hpb0)
 have hks:∀ n,SV.aB n (l.map SV.str)=true:=fun n=>bp n l
 have him:(SV.fe bm clk born none (l.map SV.str) vs).under n0=true:=by simp only[SV.under,hks,hvs,Bool.and_self]
 (refine run ?_;with_reducible repeat' first|exact trivial|(apply ad.mk<;>intro hb)|apply av.mk)
 refine Dg rfl rfl rfl ?_
 simp only[hlen]
 (refine run ?_;with_reducible repeat' first|exact trivial|(apply ad.mk<;>intro hb)|apply av.mk)
 refine az (fun idx:List Nat=>[(0,.it n1),(4,.fe bm clk born none (l.map .str) vs),(5,.it n0)]) (fun idx=>M (idx.map fun i=>l.getD i [])++[.obj (.mapIter (some bm) clk (idx.map fun i=>born.getD i 0).toArray clk)])
  (fun idx=>l.length - idx.length) (fun idx=>idx.Nodup∧∀ i∈idx,i<l.length) [] ⟨List.nodup_nil,by simp⟩ ?_ ?_
 ·exact Wk.sub (by simp[bg,look])
 ·rintro K idx ⟨hi1,hi2⟩ hK
  have hle:=DP hi1 hi2
  generalize hs:idx.map (fun i=>l.getD i [])=s
  generalize hse:(idx.map fun i=>born.getD i 0).toArray=seen
  (refine run ?_;with_reducible repeat' first|exact trivial|(apply ad.mk<;>intro hb)|apply av.mk)
  refine Fz (tm:=4) rfl rfl (by simp only[X,List.getElem?_cons_zero];rfl) rfl (fun hall=>?_) (fun i b q y hb hsn hq hy2=>?_)
  ·(refine run ?_;with_reducible repeat' first|exact trivial|(apply ad.mk<;>intro hb)|apply av.mk)
   refine Fin.bY (n0:=n0) hR (hlen _) hC' (hcl _) (.same _ rfl) ⟨s,?_,rfl⟩
   rw[← hs]
   exact DQ hi1 hi2 hnd hlb (fun b hb=>by rw[hse];exact hall b hb)
  ·have hi:i<l.length:=by have:=(List.getElem?_eq_some_iff.1 hb).1;omega
   have hq':q= .str l[i]:=by rw[List.getElem?_map,List.getElem?_eq_getElem hi] at hq;cases hq;rfl
   subst hq'
   have hni:i∉idx:=fun hm=>by
    rw[← hse] at hsn
    have:(idx.map fun i=>born.getD i 0).toArray.contains b=true:=by
     simp only[List.contains_toArray,List.contains_iff_mem,List.mem_map]
     exact⟨i,hm,by rw[List.getD_eq_getElem?_getD,hb];rfl⟩
    rw[this] at hsn;cases hsn
   have hlt:idx.length<l.length:=by
    have:=DP (n:=l.length) (idx:=idx++[i]) (List.nodup_append.2 ⟨hi1,by simp,by simp;exact fun a ha e=>hni (e ▸ ha)⟩) (by simp only[List.mem_append,List.mem_singleton];exact fun a ha=>ha.elim (hi2 a) (fun e=>e ▸ hi))
    simp at this;omega
   have hsl:s.length=idx.length:=by rw[← hs];simp
   simp only[X,List.set_cons_zero]
   (refine run ?_;with_reducible repeat' first|exact trivial|(apply ad.mk<;>intro hb)|apply av.mk)
   refine Db (tm:=4) rfl rfl (by simp only[X,List.getElem?_cons_zero];rfl) hb (by rw[List.getElem?_map,List.getElem?_eq_getElem hi];rfl) hy2 rfl ?_
   (refine run ?_;with_reducible repeat' first|exact trivial|(apply ad.mk<;>intro hb)|apply av.mk)
   refine eX (hy s l[i] _ (by omega)) ?_
   rintro r H' ⟨rfl,rfl⟩
   (refine run ?_;with_reducible repeat' first|exact trivial|(apply ad.mk<;>intro hb)|apply av.mk)
   have e1:(idx++[i]).map (fun i=>l.getD i [])=s++[l[i]]:=by
    rw[List.map_append,hs];simp[hi]
   have e2:((idx++[i]).map fun i=>born.getD i 0).toArray=seen.push b:=by
    rw[List.map_append,← hse];simp[hb]
   refine hK _ _ (idx++[i]) (by simp;omega) ⟨List.nodup_append.2 ⟨hi1,by simp,by simp;exact fun a ha e=>hni (e ▸ ha)⟩,by simp only[List.mem_append,List.mem_singleton];exact fun a ha=>ha.elim (hi2 a) (fun e=>e ▸ hi)⟩ ?_
   rw[e1,e2]
   exact Wk.sub (by simp[bg,look])
end Go.Proofs.YtehfihnfeakmaaaGreatDoor
section
open Go
namespace Go.Proofs
open Go.Shelf
def Tryz.xC:Go.Shelf.Ren:=⟨fun|190=>50|125=>106|258=>105|128=>139|129=>140|302=>130|303=>131|304=>132|305=>133|306=>134|307=>135|308=>136|309=>137|310=>138|333=>155|329=>156|330=>157|334=>158|335=>159|336=>160|344=>169|n=>n,fun|31=>36|9=>9|3=>3|46=>135|0=>0|51=>163|53=>165|4=>4|183=>156|182=>155|131=>41|5=>5|218=>179|222=>183|228=>196|229=>145|n=>n,fun|n=>n⟩
theorem Tryz.AD:Go.Proofs.Lays.n190 Tryz.prog Tryz.xC:={
 mixed:=by kernel_rfl
 f125:=Tryz.func106.trans (congrArg some (by kernel_rfl))
 f128:=Tryz.func139.trans (congrArg some (by kernel_rfl))
 f129:=Tryz.func140.trans (congrArg some (by kernel_rfl))
 f190:=Tryz.func50.trans (congrArg some (by kernel_rfl))
 f258:=Tryz.func105.trans (congrArg some (by kernel_rfl))
 f302:=Tryz.func130.trans (congrArg some (by kernel_rfl))
 f303:=Tryz.func131.trans (congrArg some (by kernel_rfl))
 f304:=Tryz.func132.trans (congrArg some (by kernel_rfl))
 f305:=Tryz.func133.trans (congrArg some (by kernel_rfl))
 f306:=Tryz.func134.trans (congrArg some (by kernel_rfl))
 f307:=Tryz.func135.trans (congrArg some (by kernel_rfl))
 f308:=Tryz.func136.trans (congrArg some (by kernel_rfl))
 f309:=Tryz.func137.trans (congrArg some (by kernel_rfl))
 f310:=Tryz.func138.trans (congrArg some (by kernel_rfl))
 f329:=Tryz.func156.trans (congrArg some (by kernel_rfl))
 f330:=Tryz.func157.trans (congrArg some (by kernel_rfl))
 f333:=Tryz.func155.trans (congrArg some (by kernel_rfl))
 f334:=Tryz.func158.trans (congrArg some (by kernel_rfl))
 f335:=Tryz.func159.trans (congrArg some (by kernel_rfl))
 f336:=Tryz.func160.trans (congrArg some (by kernel_rfl))
 f344:=Tryz.func169.trans (congrArg some (by kernel_rfl))
 t0:=Tryz.underlying0
 a0:=Tryz.isAgg0
 z0:=Tryz.sizeOf0
 v0:=Tryz.zeroValue0
 t3:=Tryz.underlying3
 a3:=Tryz.isAgg3
 z3:=Tryz.sizeOf3
 v3:=Tryz.zeroValue3
 t4:=Tryz.underlying4
 a4:=Tryz.isAgg4
 z4:=Tryz.sizeOf4
 v4:=Tryz.zeroValue4
 t5:=Tryz.underlying5
 a5:=Tryz.isAgg5
 z5:=Tryz.sizeOf5
 v5:=Tryz.zeroValue5
 t9:=Tryz.underlying9
 a9:=Tryz.isAgg9
 z9:=Tryz.sizeOf9
 v9:=Tryz.zeroValue9
 t31:=Tryz.underlying36
 a31:=Tryz.isAgg36
 z31:=Tryz.sizeOf36
 v31:=Tryz.zeroValue36
 t46:=Tryz.underlying135
 a46:=Tryz.isAgg135
 z46:=Tryz.sizeOf135
 v46:=Tryz.zeroValue135
 t51:=Tryz.underlying163
 a51:=Tryz.isAgg163
 z51:=Tryz.sizeOf163
 v51:=Tryz.zeroValue163
 t53:=Tryz.underlying165
 a53:=Tryz.isAgg165
 z53:=Tryz.sizeOf165
 v53:=Tryz.zeroValue165
 t131:=Tryz.underlying41
 a131:=Tryz.isAgg41
 z131:=Tryz.sizeOf41
 v131:=Tryz.zeroValue41
 t182:=Tryz.underlying155
 a182:=Tryz.isAgg155
 z182:=Tryz.sizeOf155
 v182:=Tryz.zeroValue155
 t183:=Tryz.underlying156
 a183:=Tryz.isAgg156
 z183:=Tryz.sizeOf156
 v183:=Tryz.zeroValue156
 t218:=Tryz.underlying179
 a218:=Tryz.isAgg179
 z218:=Tryz.sizeOf179
 v218:=Tryz.zeroValue179
 t222:=Tryz.underlying183
 a222:=Tryz.isAgg183
 z222:=Tryz.sizeOf183
 v222:=Tryz.zeroValue183
 t228:=Tryz.underlying196
 a228:=Tryz.isAgg196
 z228:=Tryz.sizeOf196
 v228:=Tryz.zeroValue196
 t229:=Tryz.underlying145
 a229:=Tryz.isAgg145
 z229:=Tryz.sizeOf145
 v229:=Tryz.zeroValue145}
open Go.Sort Go.RowKit in
theorem Tryz.slices_Sort_string (ee off cap:Nat) (ss:List (List UInt8)) (w:World) (hH:Holds encStr w ee off ss.toArray) (hblk:ee<w.heap.size) (hsz:ss.length<4611686018427387904):
 Calls Tryz.prog 50 #[.slice (some ⟨ee,off,none⟩) ss.length cap] w fun e w'=>
  e= .returned (.tuple #[])∧∃ n os,w'=grow (putRow encStr (Sort.ahead w n) ee off (ss.mergeSort fun x y=>decide (x≤y)).toArray) os:=Any.slices_Sort_string Tryz.AD ee off cap ss w hH hblk hsz
open Go.RowKit Go.Sort in
theorem Tryz.slices_Sort_string_none (p:Option Addr) (cap:Nat) (w:World):
 Calls Tryz.prog 50 #[.slice p 0 cap] w fun e w'=>e= .returned (.tuple #[])∧w'=w:=Any.slices_Sort_string_none Tryz.AD p cap w
end Go.Proofs
end
namespace Go.Proofs.YtehfihnfeakmaaaGreatDoor
open Go
theorem wz {H L L':List ax} (h:closed (H++L)) (hl:L'.length=L.length) (hu:∀ b∈L',b.under (H.length+L.length)=true):closed (H++L'):=by
 intro B hB
 rw[List.length_append,hl]
 rcases List.mem_append.1 hB with h1|h1
 ·have:=h B (List.mem_append_left _ h1)
  rwa[List.length_append] at this
 ·exact hu B h1
theorem uC (G:Gl) (hG:au G) (pb bm clk:Nat) (born:List Nat) (l:List aE) (vs:List SV) (hlb:born.length=l.length) (hlv:vs.length=l.length) (hnd:born.Nodup) (hll:l.length<1099511627776) (H:List ax)
 (hpb:H[pb]? =some (.cells 0 1 [.fe bm clk born none (l.map .str) vs])) (hvs:∀ n,SV.aB n vs=true):
 af Tryz.prog G 129 [.nil,.fn (.func 98) [] [.ptr pb 0 0 0]] H (fun r H'=>∃ s:List aE,s.Perm l∧H'=H++[.cells 0 1 (s.map .str)]∧r= .sl H.length 0 0 s.length):=by
 have hpl:pb<H.length:=(List.getElem?_eq_some_iff.1 hpb).1
 refine af.aD TB [] aA _ Tryz.func129 rfl (by decide) Tryz.ntmps129 (by simp) rfl (by simp only[ap,Nat.reduceAdd];rfl) fun C R' hR hC hcl hB=>?_;have X:=aF;have hC':=congrArg List.length hC
 refine Bm 0 1 rfl ?_
 (refine run ?_;with_reducible repeat' first|exact trivial|(apply ad.mk<;>intro hb)|apply av.mk)
 refine nr aA (σ:=List aE) (ξ:=aE) (fun s=>H++[.cells s.length 1 (s.map .str),.cells 0 1 [.sl H.length s.length 0 s.length]]) (H.length+2) (fun s=>by simp) []
  [(2,.ptr (H.length+1) 0 0 0),(6,.fn (.func 98) [] [.ptr pb 0 0 0])] (fun x=>[.str x]) (fun s x=>s.length<l.length) (fun s x=>s++[x]) (fun s=>s.Perm l)
  (fun x=>[(7,.str x),(2,.ptr (H.length+1) 0 0 0),(6,.fn (.func 98) [] [.ptr pb 0 0 0])]) rfl rfl (fun x=>rfl) (fun x=>rfl) ?_ ?_ ?_ ?_
 ·exact Wk.sub (by simp[bg,look])
 ·intro G' LO hGl hLO hy
  have:=DA G' (by unfold au;rw[hGl];exact hG) (H.length+2) pb (H.length+3) bm clk born l vs hlb hlv hnd (fun s=>(H++[.cells s.length 1 (s.map .str),.cells 0 1 [.sl H.length s.length 0 s.length]])++[LO]) (fun s=>by simp) (by omega) hll
   (fun s L=>by simp only[List.append_assoc];rw[List.getElem?_append_left hpl];exact hpb) hvs (fun hc s=>by
    simp only[List.append_assoc] at hc ⊢
    refine wz hc (by simp) (fun b hb=>?_)
    simp only[List.cons_append,List.nil_append,List.mem_cons,List.not_mem_nil,or_false] at hb
    rcases hb with rfl|rfl|rfl
    ·exact bp _ _
    ·simp[ax.under,SV.aB,SV.under]
    ·simpa using hLO) (fun s x X hs=>by
     have:=hy s x X hs
     simpa only[List.append_assoc,List.cons_append,List.nil_append] using this)
  exact this.mono fun r H' ⟨s,h1,h2⟩=>⟨s,h1,h2⟩
 ·intro G' C' ρ' s x Y LO LB K1 K hGl hB' hCH hcl' hLO hLB hs hK1 hK
  have X:=aF
  have hG':au G':=by unfold au;rw[hGl];exact hG
  simp only[List.append_assoc,List.cons_append,List.nil_append] at hcl' hCH ⊢
  (refine run ?_;with_reducible repeat' first|exact trivial|(apply ad.mk<;>intro hb)|apply av.mk)
  refine hK1 _ _ (by simp[List.getElem?_append_right]) ?_
  simp only[cB,List.set_cons_succ,List.set_cons_zero]
  (refine run ?_;with_reducible repeat' first|exact trivial|(apply ad.mk<;>intro hb)|apply av.mk)
  refine hK _ _ ?_
  simp only[List.append_assoc,List.cons_append,List.nil_append,List.length_append,List.length_cons,List.length_nil,List.map_append,List.map_cons,List.map_nil,Nat.zero_add]
  exact Wk.sub trivial
 ·intro s LO hs hLO
  simp only[List.append_assoc,List.cons_append,List.nil_append]
  (refine run ?_;with_reducible repeat' first|exact trivial|(apply ad.mk<;>intro hb)|apply av.mk)
  refine dp [(H.length,0)] (.sl H.length 0 0 s.length) [.cells 0 1 (s.map .str)] hR hC' hcl ⟨s,hs,rfl,rfl⟩
theorem yS (G:Gl) (hG:au G) (pb bm clk:Nat) (born:List Nat) (l:List aE) (vs:List SV) (hlb:born.length=l.length) (hlv:vs.length=l.length) (hnd:born.Nodup) (hll:l.length<1099511627776) (H:List ax)
 (hpb:H[pb]? =some (.cells 0 1 [.fe bm clk born none (l.map .str) vs])) (hvs:∀ n,SV.aB n vs=true):
 af Tryz.prog G 97 [.fn (.func 98) [] [.ptr pb 0 0 0]] H (fun r H'=>∃ s:List aE,s.Perm l∧H'=H++[.cells 0 1 (s.map .str)]∧r= .sl H.length 0 0 s.length):=by
 refine af.aD TB [] aA _ Tryz.func97 rfl (by decide) Tryz.ntmps97 (by simp) rfl (by simp only[ap,Nat.reduceAdd];rfl) fun C R' hR hC hcl hB=>?_;have X:=aF;have hC':=congrArg List.length hC
 (refine run ?_;with_reducible repeat' first|exact trivial|(apply ad.mk<;>intro hb)|apply av.mk)
 refine bt (uC G hG pb bm clk born l vs hlb hlv hnd hll H hpb hvs) ?_
 rintro r H' ⟨s,hs,rfl,rfl⟩
 (refine run ?_;with_reducible repeat' first|exact trivial|(apply ad.mk<;>intro hb)|apply av.mk)
 exact dp [(H.length,0)] (.sl H.length 0 0 s.length) [.cells 0 1 (s.map .str)] hR hC' hcl ⟨s,hs,rfl,rfl⟩
def dU (l:List aE):List aE:=l.mergeSort fun x y=>decide (x≤y)
theorem fM (l:List aE):(dU l).Perm l:=List.mergeSort_perm l _
theorem fL (l:List aE):(dU l).length=l.length:=(fM l).length_eq
theorem yk {s l:List aE} (h:s.Perm l):dU s=dU l:=Go.mergeSort_of_perm h
theorem uj (G:Gl) (id g:Nat) (l:List aE) (H:List ax) (hH:H[id]? =some (.cells g 1 (l.map .str))) (hl:l.length<4611686018427387904):
 af Tryz.prog G 50 [.sl id g 0 l.length] H (fun r H'=>H'=H.set id (.cells g 1 ((dU l).map .str))∧r= .tuple []):=
 af.F6 encStr .str (fun s=>s.length≤maxLen) (fun c x v=>x7 c x v) (fun _=>rfl) (fun x y=>decide (x≤y)) ⟨_,Tryz.func50,by decide,rfl⟩
  (fun ee off cap zs w h1 h2 h3=>Tryz.slices_Sort_string ee off cap zs w h1 h2 h3) (fun p cap w=>Tryz.slices_Sort_string_none p cap w) id g l H hH hl
theorem B5 (G:Gl) (hG:au G) (pb bm clk:Nat) (born:List Nat) (l:List aE) (vs:List SV) (hlb:born.length=l.length) (hlv:vs.length=l.length) (hnd:born.Nodup) (hll:l.length<1099511627776) (H:List ax)
 (hpb:H[pb]? =some (.cells 0 1 [.fe bm clk born none (l.map .str) vs])) (hvs:∀ n,SV.aB n vs=true):
 af Tryz.prog G 41 [.fn (.func 98) [] [.ptr pb 0 0 0]] H (fun r H'=>H'=H++[.cells 0 1 ((dU l).map .str)]∧r= .sl H.length 0 0 l.length):=by
 refine af.aD TB [] aA _ Tryz.func41 rfl (by decide) Tryz.ntmps41 (by simp) rfl (by simp only[ap,Nat.reduceAdd];rfl) fun C R' hR hC hcl hB=>?_;have X:=aF;have hC':=congrArg List.length hC
 (refine run ?_;with_reducible repeat' first|exact trivial|(apply ad.mk<;>intro hb)|apply av.mk)
 refine bt (yS G hG pb bm clk born l vs hlb hlv hnd hll H hpb hvs) ?_
 rintro r H' ⟨s,hs,rfl,rfl⟩
 (refine run ?_;with_reducible repeat' first|exact trivial|(apply ad.mk<;>intro hb)|apply av.mk)
 have hsl:=hs.length_eq
 refine bt (uj G H.length 0 s _ (by simp) (by omega)) ?_
 rintro r H' ⟨rfl,rfl⟩
 rw[yk hs,hsl]
 simp only[fB,List.set_cons_zero]
 (refine run ?_;with_reducible repeat' first|exact trivial|(apply ad.mk<;>intro hb)|apply av.mk)
 exact dp [(H.length,0)] (.sl H.length 0 0 l.length) [.cells 0 1 ((dU l).map .str)] hR hC' hcl ⟨rfl,rfl⟩
theorem FQ (G:Gl) (hG:au G) (bm clk:Nat) (born:List Nat) (l:List aE) (vs:List SV) (hvs:∀ n,SV.aB n vs=true) (H:List ax):
 af Tryz.prog G 42 [.fe bm clk born none (l.map .str) vs] H (fun r H'=>H'=H++[.cells 0 1 [.fe bm clk born none (l.map .str) vs]]∧r= .fn (.func 98) [] [.ptr H.length 0 0 0]):=by
 refine af.aD TB [] aA _ Tryz.func42 rfl (by decide) Tryz.ntmps42 (by simp) rfl (by simp only[ap,Nat.reduceAdd];rfl) fun C R' hR hC hcl hB=>?_;have X:=aF;have hC':=congrArg List.length hC
 have hks:∀ n,SV.aB n (l.map SV.str)=true:=fun n=>bp n l
 (refine run ?_;with_reducible repeat' first|exact trivial|(apply ad.mk<;>intro hb)|apply av.mk)
 refine dp [(H.length,0)] (.fn (.func 98) [] [.ptr H.length 0 0 0]) [.cells 0 1 [.fe bm clk born none (l.map .str) vs]] hR hC' hcl ⟨rfl,rfl⟩ (.c (by exact dq) (Nat.le_refl _) (Nat.zero_le _) (cQ.same ?_) .nil) (by simp) (.fn _ _ _ _ _ .nil (.cons _ _ _ _ (bE.kp 0 rfl (by exact dq) (Nat.le_refl _) rfl rfl) .nil))
 simp only[List.drop_zero,SV.aB,SV.under,hks,hvs,Bool.and_self]
theorem oQ (e:Ex):((aN e).map fun p=>p.1.wt).sum<e.wt:=by
 obtain⟨kd,nm,nn,op,names,ae,binds,alts⟩:=e
 have h1:∀ l:List Ex,(l.map fun x=>x.wt).sum=cw l:=fun l=>by
  induction l with
  |nil=>rfl
  |cons x r ih=>simp only[List.map_cons,List.sum_cons,cw,ih]
 have h2:∀ l:List Bd,(l.map fun b=>b.e.wt).sum≤aM l:=fun l=>by
  induction l with
  |nil=>exact Nat.le_refl _
  |cons x r ih=>simp only[List.map_cons,List.sum_cons,aM];have:=x.di;omega
 have h3:∀ l:List Al,(l.map fun b=>b.body.wt).sum≤cU l:=fun l=>by
  induction l with
  |nil=>exact Nat.le_refl _
  |cons x r ih=>simp only[List.map_cons,List.sum_cons,cU];have:=x.di;omega
 have:=h1 ae;have:=h2 binds;have:=h3 alts
 simp only[aN,List.map_append,List.map_map,Function.comp_def,List.sum_append,Ex.wt]
 omega
theorem xY (l:List aE) (s:aE):(fz l s).length≤l.length+1:=by
 unfold fz
 split<;>simp
theorem l7:∀ (m:Nat) (e:Ex) (st:BO),(dr m e st).2.length≤st.2.length+e.wt
 |0,e,st=>by simp[dr]
 |m+1,e,st=>by
  rw[dr]
  have hp:=e.b9
  split
  ·split
   ·have:=xY st.2 e.name;simp only;omega
   ·omega
  ·have hs:=oQ e
   generalize aN e=l at hs
   have key:∀ (l:List (Ex×List aE)) (st:BO),(l.foldl (eO (dr m)) st).2.length≤st.2.length+(l.map fun p=>p.1.wt).sum:=fun l=>by
    induction l with
    |nil=>intro st;exact Nat.le_refl _
    |cons p l ih=>
     intro st
     rw[List.foldl_cons]
     have h1:=ih (eO (dr m) st p)
     have h2:=l7 m p.1 (iL st.1 p.2,st.2)
     simp only[List.map_cons,List.sum_cons]
     have e:(eO (dr m) st p).2.length=(dr m p.1 (iL st.1 p.2,st.2)).2.length:=rfl
     rw[e] at h1
     simp only at h2
     omega
   have:=key l st
   omega
theorem rP {l:List aE} (h:l.Nodup) (s:aE):(fz l s).Nodup:=by
 unfold fz
 split
 ·exact h
 ·rename_i hs
  exact List.nodup_append.2 ⟨h,by simp,by simp;exact fun a ha e=>hs (e ▸ ha)⟩
def cX (e:Ex):List aE:=dU (dr e.wt e ([],[])).2
theorem Fm (G:Gl) (hG:au G) (e:Ex) (H:List ax) (hw:e.wt<549755813888):af Tryz.prog G 16 [e.sv] H (fun r H'=>H'=H++[.cells 0 1 ((cX e).map .str)]∧r= .sl H.length 0 0 (cX e).length):=by
 refine af.aD TB [] aA _ Tryz.func16 rfl (by decide) Tryz.ntmps16 (by simp) rfl (by simp only[ap,Nat.reduceAdd];rfl) fun C R' hR hC hcl hB=>?_;have X:=aF;have hC':=congrArg List.length hC
 have hcall:=mP G hG e.wt e (Nat.le_refl _) hw (H++[.cells 0 8 [e.sv],.map none [],.map none []]) (H.length+2) (H.length+1) ([],[]) (by simp[pD]) (by simp[kF]) (by omega) (fun s=>by simp only[cv];omega)
 have hlen:=l7 e.wt e ([],[])
 have hfl:(cX e).length=(dr e.wt e ([],[])).2.length:=fL _
 generalize hst:dr e.wt e ([],[])=st at hcall hlen hfl
 (refine run ?_;with_reducible repeat' first|exact trivial|(apply ad.mk<;>intro hb)|apply av.mk)
 refine bt hcall ?_
 rintro r H' rfl
 simp only[UH,cB,List.set_cons_succ,List.set_cons_zero]
 refine Df ?_
 refine Hu (t:=3) (io:=H.length+1) (kd:=none) (es:=kF st.2) (by exact dq) (by omega) hB rfl (fun bm clk born hb hnd=>?_)
 have e1:(kF st.2).map Prod.fst=st.2.map .str:=by simp[kF]
 have e2:(kF st.2).map Prod.snd=st.2.map fun _=> .bool true:=by simp[kF]
 have e3:(kF st.2).length=st.2.length:=by simp[kF]
 rw[e1,e2]
 rw[e3] at hb
 simp only[cB,List.set_cons_succ,List.set_cons_zero]
 (refine run ?_;with_reducible repeat' first|exact trivial|(apply ad.mk<;>intro hb)|apply av.mk)
 refine bt (FQ G hG bm clk born st.2 _ (fun n=>SV.bC fun _ _=>rfl) _) ?_
 rintro r H' ⟨rfl,rfl⟩
 simp only[List.append_assoc,List.cons_append,List.nil_append,List.length_append,List.length_cons,List.length_nil,List.length_set,X,Nat.reduceAdd]
 (refine run ?_;with_reducible repeat' first|exact trivial|(apply ad.mk<;>intro hb)|apply av.mk)
 refine bt (B5 G hG (H.length+3) bm clk born st.2 (st.2.map fun _=> .bool true) hb (by simp) hnd (by simp only at hlen;simp at hlen;omega) _ (by rw[bZ];rfl) (fun n=>SV.bC fun _ _=>rfl)) ?_
 rintro r H' ⟨rfl,rfl⟩
 simp only[List.append_assoc,List.cons_append,List.nil_append,List.length_append,List.length_cons,List.length_nil,List.length_set,X,Nat.reduceAdd]
 (refine run ?_;with_reducible repeat' first|exact trivial|(apply ad.mk<;>intro hb)|apply av.mk)
 have e4:dU st.2=cX e:=by rw[cX,hst]
 rw[e4,← hfl]
 exact dp [(H.length+4,0)] (.sl H.length 0 0 (cX e).length) [.cells 0 1 ((cX e).map .str)] hR hC' hcl ⟨rfl,rfl⟩
theorem Ai (G:Gl) (hG:au G) (e:Ex) (hw:e.wt<549755813888) (fv:SV) (Hs:Nat→List ax) (n0:Nat) (hlen:∀ i,(Hs i).length=n0) (hfu:fv.under n0=true) (hcls:closed (Hs 0)→∀ i,closed (Hs i))
 (hy:∀ i p X,e.parts[i]? =some p→bz Tryz.prog G fv [p.sv] (Hs i++X) (fun r H'=>H'=Hs (i+1)++X∧r= .bool true)):
 af Tryz.prog G 100 [e.sv,fv] (Hs 0) (fun r H'=>H'=Hs e.parts.length∧r= .bool true):=by
 obtain⟨kd,nm,nn,op,names,ae,binds,alts⟩:=e
 have hle:=Ex.cm kd nm nn op names ae binds alts
 rw[Ex.bM] at hy ⊢
 have hpl:(ae++(binds.map Bd.e++alts.map Al.body)).length=ae.length+binds.length+alts.length:=by simp;omega
 have p1:∀ i (h:i<ae.length),(ae++(binds.map Bd.e++alts.map Al.body))[i]? =some ae[i]:=fun i h=>by
  rw[List.getElem?_append_left h,List.getElem?_eq_getElem h]
 have p2:∀ i (h:i<binds.length),(ae++(binds.map Bd.e++alts.map Al.body))[ae.length+i]? =some binds[i].e:=fun i h=>by
  rw[List.getElem?_append_right (by omega),Nat.add_sub_cancel_left,List.getElem?_append_left (by simpa using h),List.getElem?_map,List.getElem?_eq_getElem h];rfl
 have p3:∀ i (h:i<alts.length),(ae++(binds.map Bd.e++alts.map Al.body))[ae.length+(binds.length+i)]? =some alts[i].body:=fun i h=>by
  rw[List.getElem?_append_right (by omega),Nat.add_sub_cancel_left,List.getElem?_append_right (by simp),List.length_map,Nat.add_sub_cancel_left,List.getElem?_map,List.getElem?_eq_getElem h];rfl
 refine af.aD TB [] aA _ Tryz.func100 rfl (by decide) Tryz.ntmps100 (by simp) rfl (by simp only[ap,Nat.reduceAdd];rfl) fun C R' hR hC hcl hB=>?_;have X:=aF;have hC':=congrArg List.length hC
 have hcl:=hcls hcl
 have hC':=hC'.trans (hlen 0)
 have X:=IT Hs n0 hlen
 (refine bL ?_;with_reducible repeat' first|exact trivial|(apply ad.mk<;>intro hb)|apply av.mk)
 refine az (fun i:Nat=>[(1,fv),(2,.ptr n0 0 0 0),(12,.list 8 (ag ae)),(13,.int .i64 ae.length),(14,.int .i64 i)])
  (fun i=>Hs i++[.cells 0 8 [.agg [.int .i64 kd,.str nm,.int .i64 nn,.int .i64 op,.list 1 (names.map .str),.list 8 (ag ae),.list 9 (ah binds),.list 12 (aw alts)]]]) (fun i=>ae.length - i) (fun i=>i≤ae.length) 0 (Nat.zero_le _) ?_ ?_
 ·exact aY (n0:=n0) [(n0,0)] hG hB hC' (hcl 0)
 rintro K i hi hK
 (refine bL ?_;with_reducible repeat' first|exact trivial|(apply ad.mk<;>intro hb)|apply av.mk)
 ·refine eX (hy i _ _ (p1 i (by omega))) ?_
  rintro r H' ⟨rfl,rfl⟩
  (refine bL ?_;with_reducible repeat' first|exact trivial|(apply ad.mk<;>intro hb)|apply av.mk)
  refine hK _ _ (i+1) (by omega) (by omega) ?_
  exact aY (n0:=n0) [(n0,0)] hG hB hC' (hcl (i+1))
 obtain rfl:i=ae.length:=by omega
 clear hK
 refine az (fun i:Nat=>[(1,fv),(2,.ptr n0 0 0 0),(24,.list 9 (ah binds)),(25,.int .i64 binds.length),(26,.int .i64 i)])
  (fun i=>Hs (ae.length+i)++[.cells 0 8 [.agg [.int .i64 kd,.str nm,.int .i64 nn,.int .i64 op,.list 1 (names.map .str),.list 8 (ag ae),.list 9 (ah binds),.list 12 (aw alts)]]]) (fun i=>binds.length - i) (fun i=>i≤binds.length) 0 (Nat.zero_le _) ?_ ?_
 ·exact aY (n0:=n0) [(n0,0)] hG hB hC' (hcl _)
 rintro K i hi hK
 (refine bL ?_;with_reducible repeat' first|exact trivial|(apply ad.mk<;>intro hb)|apply av.mk)
 ·refine eX (hy (ae.length+i) _ _ (p2 i (by omega))) ?_
  rintro r H' ⟨rfl,rfl⟩
  (refine bL ?_;with_reducible repeat' first|exact trivial|(apply ad.mk<;>intro hb)|apply av.mk)
  refine hK _ _ (i+1) (by omega) (by omega) ?_
  exact aY (n0:=n0) [(n0,0)] hG hB hC' (hcl _)
 obtain rfl:i=binds.length:=by omega
 clear hK
 refine az (fun i:Nat=>[(1,fv),(2,.ptr n0 0 0 0),(37,.list 12 (aw alts)),(38,.int .i64 alts.length),(39,.int .i64 i)])
  (fun i=>Hs (ae.length+(binds.length+i))++[.cells 0 8 [.agg [.int .i64 kd,.str nm,.int .i64 nn,.int .i64 op,.list 1 (names.map .str),.list 8 (ag ae),.list 9 (ah binds),.list 12 (aw alts)]]]) (fun i=>alts.length - i) (fun i=>i≤alts.length) 0 (Nat.zero_le _) ?_ ?_
 ·exact aY (n0:=n0) [(n0,0)] hG hB hC' (hcl _)
 rintro K i hi hK
 (refine bL ?_;with_reducible repeat' first|exact trivial|(apply ad.mk<;>intro hb)|apply av.mk)
 ·refine eX (hy (ae.length+(binds.length+i)) _ _ (p3 i (by omega))) ?_
  rintro r H' ⟨rfl,rfl⟩
  (refine bL ?_;with_reducible repeat' first|exact trivial|(apply ad.mk<;>intro hb)|apply av.mk)
  refine hK _ _ (i+1) (by omega) (by omega) ?_
  exact aY (n0:=n0) [(n0,0)] hG hB hC' (hcl _)
 obtain rfl:i=alts.length:=by omega
 refine Fin.bY (n0:=n0) hR (hlen _) hC' (hcl _) (.same _ rfl) ⟨?_,rfl⟩
 rw[hpl,Nat.add_assoc]
def vQ (n:Int):ax:= .cells 0 1 [.int .i64 n]
theorem Eo (G:Gl) (hG:au G) (x:Ex) (H:List ax) (n:Int) (nb:Nat) (h1:H[nb]? =some (vQ n)) (h2:0≤n) (h3:n+1<4611686018427387904):
 af Tryz.prog G 99 [x.sv,.ptr nb 0 0 0] H (fun r H'=>H'=H.set nb (vQ (n+1))∧r= .bool true):=by
 have hlt:nb<H.length:=(List.getElem?_eq_some_iff.1 h1).1
 refine af.aD TB [] aA _ Tryz.func99 rfl (by decide) Tryz.ntmps99 (by simp) rfl (by simp only[ap,Nat.reduceAdd];rfl) fun C R' hR hC hcl hB=>?_;have X:=aF;have hC':=congrArg List.length hC
 have X:=h1
 unfold vQ at X
 (refine run ?_;with_reducible repeat' first|exact trivial|(apply ad.mk<;>intro hb)|apply av.mk)
 exact Fin.bY (n0:=H.length) hR (by simp) hC' (hcl.set rfl) (.same _ rfl) ⟨rfl,rfl⟩
theorem pX {α:Type} (f:List α→Nat) (g:α→Nat) (h0:f []=0) (h1:∀ x l,f (x::l)=g x+f l):∀ l,f l=(l.map g).sum
 |[]=>by simp[h0]
 |x::l=>by rw[h1,pX f g h0 h1 l];simp
theorem xe (l:List Ex):lP l=(l.map Ex.size).sum:=pX lP _ (by simp[lP]) (fun x l=>by simp only[lP]) l
theorem wi (l:List Bd):lL l=((l.map Bd.e).map Ex.size).sum:=by
 rw[List.map_map];exact pX lL _ (by simp[lL]) (fun x l=>by cases x;simp only[lL,Bd.size,Function.comp_def,Bd.e]) l
theorem vZ (l:List Al):lK l=((l.map Al.body).map Ex.size).sum:=by
 rw[List.map_map];exact pX lK _ (by simp[lK]) (fun x l=>by cases x;simp only[lK,Al.size,Function.comp_def,Al.body]) l
theorem Ex.mO (e:Ex):e.size=1+(e.parts.map Ex.size).sum:=by
 obtain⟨kd,nm,nn,op,names,ae,binds,alts⟩:=e
 rw[Ex.bM,Ex.size,xe,wi,vZ,List.map_append,List.map_append,List.sum_append,List.sum_append]
 omega
theorem lG {l:List Nat}:∀ (i:Nat),(l.take i).sum≤l.sum:=by
 induction l with
 |nil=>intro i;simp
 |cons x r ih=>
  intro i
  cases i with
  |zero=>simp
  |succ i=>simp only[List.take_succ_cons,List.sum_cons];have:=ih i;omega
def Ip (G:Gl) (m:Nat):Prop:=∀ (e:Ex) (H:List ax) (n:Int) (nb:Nat),e.wt≤m→H[nb]? =some (vQ n)→0≤n→n+e.size<4611686018427387904→
 af Tryz.prog G 48 [e.sv,.fn (.func 99) [] [.ptr nb 0 0 0]] H (fun r H'=>H'=H.set nb (vQ (n+e.size))∧r= .bool true)
theorem E3 (G:Gl) (hG:au G) (m:Nat) (hrec:Ip G m) (p:Ex) (H:List ax) (n:Int) (nb ib:Nat) (hp:p.wt≤m) (h1:H[nb]? =some (vQ n)) (hib:H[ib]? =some (.cells 0 1 [.fn (.func 99) [] [.ptr nb 0 0 0]])) (h2:0≤n) (h3:n+p.size<4611686018427387904):
 af Tryz.prog G 103 [p.sv,.ptr ib 0 0 0] H (fun r H'=>H'=H.set nb (vQ (n+p.size))∧r= .bool true):=by
 have hlt:nb<H.length:=(List.getElem?_eq_some_iff.1 h1).1
 have hlt2:ib<H.length:=(List.getElem?_eq_some_iff.1 hib).1
 refine af.aD TB [] aA _ Tryz.func103 rfl (by decide) Tryz.ntmps103 (by simp) rfl (by simp only[ap,Nat.reduceAdd];rfl) fun C R' hR hC hcl hB=>?_;have X:=aF;have hC':=congrArg List.length hC
 have X:=And.intro h1 hib
 (refine run ?_;with_reducible repeat' first|exact trivial|(apply ad.mk<;>intro hb)|apply av.mk)
 refine bt (hrec p _ n nb hp (by rw[cA hlt];exact h1) h2 h3) ?_
 rintro r H' ⟨rfl,rfl⟩
 rw[eN hlt]
 (refine run ?_;with_reducible repeat' first|exact trivial|(apply ad.mk<;>intro hb)|apply av.mk)
 exact Fin.bY (n0:=H.length) hR (by simp) hC' (hcl.set rfl) (.same _ rfl) ⟨rfl,rfl⟩
theorem Ct (G:Gl) (hG:au G):∀ m,m<549755813888→Ip G m
 |0,_,e,_,_,_,h,_,_,_=>absurd e.b9 (by omega)
 |m+1,hm2,e,H,n,nb,hm,h1,h2,h3=>by
  have hlt:nb<H.length:=(List.getElem?_eq_some_iff.1 h1).1
  have hsz:=e.mO
  have hrec:=Ct G hG m (by omega)
  have hs0:=e.size_pos
  refine af.aD TB [] aA _ Tryz.func48 rfl (by decide) Tryz.ntmps48 (by simp) rfl (by simp only[ap,Nat.reduceAdd];rfl) fun C R' hR hC hcl hB=>?_;have X:=aF;have hC':=congrArg List.length hC
  (refine run ?_;with_reducible repeat' first|exact trivial|(apply ad.mk<;>intro hb)|apply av.mk)
  refine eX (bz.of (first:=[]) (args:=[e.sv]) (cap:=[.ptr nb 0 0 0]) (Eo G hG e _ n nb (by rw[cA hlt];exact h1) h2 (by omega))) ?_
  rintro r H' ⟨rfl,rfl⟩
  rw[eN hlt]
  (refine run ?_;with_reducible repeat' first|exact trivial|(apply ad.mk<;>intro hb)|apply av.mk)
  have hw:∀ i,n+1+(((e.parts.take i).map Ex.size).sum:Nat)≤n+e.size:=fun i=>by
   have:=lG (l:=e.parts.map Ex.size) i
   rw[← List.map_take] at this
   omega
  have hk:∀ (i:Nat) (L:List ax),((H.set nb (vQ (n+1+(((e.parts.take i).map Ex.size).sum:Nat)))++L))[nb]? =some (vQ (n+1+(((e.parts.take i).map Ex.size).sum:Nat))):=fun i L=>xm hlt
  have heach:=Ai G hG e (by omega) (.fn (.func 103) [] [.ptr (H.length+1) 0 0 0]) (fun i=>H.set nb (vQ (n+1+(((e.parts.take i).map Ex.size).sum:Nat)))++[.cells 0 8 [.agg e.cells],.cells 0 1 [.fn (.func 99) [] [.ptr nb 0 0 0]]]) (H.length+2) (fun i=>by simp) (by simp[SV.under,SV.aB])
   (fun h i=>by have:=h.set (id:=nb) (b:=vQ (n+1+(((e.parts.take i).map Ex.size).sum:Nat))) rfl;rwa[sr hlt] at this) (fun i p X hp=>by
    have hpw:=Ex.bT (List.mem_of_getElem? hp)
    have hlp:=(List.getElem?_eq_some_iff.1 hp)
    have hnx:((e.parts.take (i+1)).map Ex.size).sum=((e.parts.take i).map Ex.size).sum+p.size:=by
     rw[List.take_succ_eq_append_getElem hlp.1,hlp.2];simp
    have hwi:=hw (i+1)
    refine bz.of (first:=[]) (args:=[p.sv]) (cap:=[.ptr (H.length+1) 0 0 0]) ((E3 G hG m hrec p _ (n+1+(((e.parts.take i).map Ex.size).sum:Nat)) nb (H.length+1) (by omega) (by rw[List.append_assoc];exact hk i _) (by rw[List.append_assoc];simp) (by omega) (by omega)).mono ?_)
    rintro r H' ⟨rfl,rfl⟩
    refine⟨?_,rfl⟩
    rw[List.append_assoc,sr hlt,hnx,List.append_assoc]
    congr 3
    omega)
  rw[show n+1+((((e.parts.take 0).map Ex.size).sum:Nat):Int)=n+1 by simp] at heach
  refine bt heach ?_
  rintro r H' ⟨rfl,rfl⟩
  rw[List.take_length,show n+1+(((e.parts.map Ex.size).sum:Nat):Int)=n+e.size by omega]
  (refine run ?_;with_reducible repeat' first|exact trivial|(apply ad.mk<;>intro hb)|apply av.mk)
  exact Fin.bY (n0:=H.length) hR (by simp) hC' (hcl.set rfl) (.same _ rfl) ⟨rfl,rfl⟩
theorem Gm (G:Gl) (hG:au G) (e:Ex) (H:List ax) (hw:e.wt<549755813887) (hs:e.size<4611686018427387904):af Tryz.prog G 43 [e.sv] H (fun r H'=>H'=H∧r= .int .i64 e.size):=by
 refine af.aD TB [] aA _ Tryz.func43 rfl (by decide) Tryz.ntmps43 (by simp) rfl (by simp only[ap,Nat.reduceAdd];rfl) fun C R' hR hC hcl hB=>?_;have X:=aF;have hC':=congrArg List.length hC
 (refine run ?_;with_reducible repeat' first|exact trivial|(apply ad.mk<;>intro hb)|apply av.mk)
 refine bt (Ct G hG e.wt (by omega) e _ 0 (H.length+1) (Nat.le_refl _) (by rw[bZ];rfl) (by omega) (by omega)) ?_
 rintro r H' ⟨rfl,rfl⟩
 rw[cB,vQ,Int.zero_add]
 simp only[List.set_cons_succ,List.set_cons_zero]
 (refine run ?_;with_reducible repeat' first|exact trivial|(apply ad.mk<;>intro hb)|apply av.mk)
 exact Fin.bY (n0:=H.length) hR (by simp) hC' hcl (.same _ rfl) ⟨rfl,rfl⟩
def ER:Nat→Ex→Prop
 |0,_=>True
 |m+1,e=>(e.kind≠6→e.alts=[])∧(e.kind≠5→e.binds=[])∧∀ p∈e.parts,ER m p
def sY (s:aE) (p:Ex×List aE):Nat:=if s∈p.2 then 0 else vw s p.1
theorem xR (s:aE):∀ l:List Bd,BH s l=(l.map fun b=>vw s b.e).sum
 |[]=>rfl
 |b::r=>by simp only[BH,List.map_cons,List.sum_cons,xR s r,DY]
theorem xT (s:aE):∀ l:List Ex,BI s l=(l.map (vw s)).sum
 |[]=>rfl
 |e::r=>by simp only[BI,List.map_cons,List.sum_cons,xT s r]
theorem xP (s:aE) (c:Prop) [Decidable c]:∀ l:List Al,BG s c l=(l.map fun a=>if s∈a.names∨c then 0 else vw s a.body).sum
 |[]=>rfl
 |e::r=>by simp only[BG,List.map_cons,List.sum_cons,xP s c r,DW]
theorem sF {α:Type} {f:α→Nat}:∀ {l:List α},(∀ x∈l,f x=0)→(l.map f).sum=0
 |[],_=>rfl
 |x::l,h=>by rw[List.map_cons,List.sum_cons,h x (List.mem_cons_self ..),sF fun y hy=>h y (List.mem_cons_of_mem _ hy)]
theorem l4 {α:Type} {f g:α→Nat}:∀ {l:List α},(∀ x∈l,f x=g x)→(l.map f).sum=(l.map g).sum
 |[],_=>rfl
 |x::l,h=>by rw[List.map_cons,List.sum_cons,List.map_cons,List.sum_cons,h x (List.mem_cons_self ..),l4 fun y hy=>h y (List.mem_cons_of_mem _ hy)]
theorem BJ (s:aE) {kd:Int} {nm:aE} {nn op:Int} {names:List aE} {ae:List Ex} {binds:List Bd} {alts:List Al} (hk:kd≠1) (h6:kd≠6→alts=[]):
 vw s (.mk kd nm nn op names ae binds alts)=((aN (.mk kd nm nn op names ae binds alts)).map (sY s)).sum:=by
 rw[aN,List.map_append,List.map_append,List.sum_append,List.sum_append,List.map_map,List.map_map,List.map_map]
 by_cases ho:s∈dR kd names binds
 ·have hk6:kd≠6:=fun e=>by subst e;simp[dR] at ho
  rw[h6 hk6,vw,if_neg hk,if_pos ho,sF (fun x _=>by simp[sY,ho]),sF (fun x _=>by simp[sY,ho])]
  rfl
 ·rw[vw,if_neg hk,if_neg ho,xT,xR,xP,Nat.add_assoc]
  congr 1
  ·exact l4 fun x _=>by simp[sY,ho]
  ·congr 1
   ·exact l4 fun x _=>by simp[sY,ho]
   ·refine l4 fun a _=>?_
    by_cases h:kd=6
    ·simp[sY,h,eq_comm]
    ·simp[sY,h]
theorem xX (e:Ex):e.parts=(aN e).map Prod.fst:=by
 obtain⟨kd,nm,nn,op,names,ae,binds,alts⟩:=e
 rw[Ex.bM,aN]
 simp[Function.comp_def]
theorem sH (s:aE):∀ (m:Nat) (e:Ex) (st:BO),e.wt≤m→ER m e→(∀ t,0≤cv st.1 t)→(s∈(dr m e st).2↔s∈st.2∨(cv st.1 s=0∧0<vw s e))
 |0,e,st,h,_,_=>absurd e.b9 (by omega)
 |m+1,e,st,hm,hs,hc=>by
  obtain⟨h6,_,hp⟩:=hs
  rw[dr]
  by_cases hk:e.kind=1
  ·rw[if_pos hk]
   obtain⟨kd,nm,nn,op,names,ae,binds,alts⟩:=e
   rw[vw,if_pos (show kd=1 from hk)]
   by_cases hz:cv st.1 nm=0
   ·rw[if_pos (show cv st.1 (Ex.mk kd nm nn op names ae binds alts).name=0 from hz)]
    show s∈fz st.2 nm↔_
    simp only[fz]
    by_cases hns:nm=s
    ·subst hns
     simp only[if_true]
     split<;>simp_all
    ·simp only[if_neg hns,Nat.lt_irrefl,and_false,or_false]
     split
     ·rfl
     ·simp[show s≠nm from fun e=>hns e.symm]
   ·rw[if_neg (show ¬ cv st.1 (Ex.mk kd nm nn op names ae binds alts).name=0 from hz)]
    by_cases hns:nm=s
    ·subst hns;simp[hz]
    ·simp[hns]
  ·rw[if_neg hk]
   have ho:vw s e=((aN e).map (sY s)).sum:=by
    obtain⟨kd,nm,nn,op,names,ae,binds,alts⟩:=e
    exact BJ s hk h6
   have hw:∀ p∈aN e,p.1.wt≤m∧ER m p.1:=fun p h=>by
    have:=sk h
    exact⟨by omega,hp _ (by rw[xX];exact List.mem_map_of_mem h)⟩
   rw[ho]
   clear ho hm hp h6 hk
   generalize aN e=l at hw
   induction l generalizing st with
   |nil=>simp
   |cons p l ih=>
    have hpw:=hw p (List.mem_cons_self ..)
    have hci:∀ t,0≤cv (iL st.1 p.2) t:=fun t=>by rw[gl];have:=hc t;omega
    have h1:=sH s m p.1 (iL st.1 p.2,st.2) hpw.1 hpw.2 hci
    have h3:s∈(l.foldl (eO (dr m)) (eO (dr m) st p)).2↔(s∈(eO (dr m) st p).2∨(cv (eO (dr m) st p).1 s=0∧0<(l.map (sY s)).sum)):=ih (eO (dr m) st p) (fun t=>by rw[lN];exact hc t) (fun q hq=>hw q (List.mem_cons_of_mem _ hq))
    rw[List.foldl_cons,h3,lN,List.map_cons,List.sum_cons]
    have h2:(eO (dr m) st p).2=(dr m p.1 (iL st.1 p.2,st.2)).2:=rfl
    rw[h2,h1]
    simp only
    rw[gl,sY]
    have hcs:=hc s
    by_cases hsn:s∈p.2
    ·have:=List.count_pos_iff.2 hsn
     rw[if_pos hsn]
     constructor
     ·rintro ((h|h)|h)
      ·exact .inl h
      ·omega
      ·exact .inr ⟨h.1,by omega⟩
     ·rintro (h|h)
      ·exact .inl (.inl h)
      ·exact .inr ⟨h.1,by omega⟩
    ·have:=List.count_eq_zero.2 hsn
     rw[if_neg hsn,this]
     constructor
     ·rintro ((h|h)|h)
      ·exact .inl h
      ·exact .inr ⟨by omega,by omega⟩
      ·exact .inr ⟨h.1,by omega⟩
     ·rintro (h|h)
      ·exact .inl (.inl h)
      ·by_cases h0:0<vw s p.1
       ·exact .inl (.inr ⟨by omega,h0⟩)
       ·exact .inr ⟨h.1,by omega⟩
theorem Bh (s:aE) (e:Ex) (hs:ER e.wt e):s∈cX e↔0<vw s e:=by
 rw[cX,(fM _).mem_iff,sH s e.wt e ([],[]) (Nat.le_refl _) hs (fun t=>by simp[cv])]
 simp[cv]
theorem C4:∀ l:List Ex,(l.map Ex.wt).sum≤cw l
 |[]=>Nat.le_refl _
 |x::l=>by simp only[List.map_cons,List.sum_cons,cw];have:=C4 l;omega
theorem CB:∀ l:List Bd,((l.map Bd.e).map Ex.wt).sum≤aM l
 |[]=>Nat.le_refl _
 |x::l=>by simp only[List.map_cons,List.sum_cons,aM];have:=CB l;have:=x.di;omega
theorem Cu:∀ l:List Al,((l.map Al.body).map Ex.wt).sum≤cU l
 |[]=>Nat.le_refl _
 |x::l=>by simp only[List.map_cons,List.sum_cons,cU];have:=Cu l;have:=x.di;omega
theorem rO (e:Ex):1+(e.parts.map Ex.wt).sum≤e.wt:=by
 obtain⟨kd,nm,nn,op,names,ae,binds,alts⟩:=e
 rw[Ex.bM,List.map_append,List.map_append,List.sum_append,List.sum_append,Ex.wt]
 have:=C4 ae
 have:=CB binds
 have:=Cu alts
 omega
theorem Er {α:Type} {f g:α→Nat}:∀ {l:List α},(∀ x∈l,f x≤g x)→(l.map f).sum≤(l.map g).sum
 |[],_=>Nat.le_refl _
 |x::l,h=>by
  have h1:=h x (List.mem_cons_self ..)
  have h2:=Er fun y hy=>h y (List.mem_cons_of_mem _ hy)
  simp only[List.map_cons,List.sum_cons];omega
theorem ig:∀ (m:Nat) (e:Ex),e.wt≤m→e.size≤e.wt
 |0,e,h=>absurd e.b9 (by omega)
 |m+1,e,h=>by
  rw[e.mO]
  have h1:=rO e
  have h2:=Er (f:=Ex.size) (g:=Ex.wt) (l:=e.parts) fun p hp=>ig m p (by have:=Ex.bT hp;omega)
  omega
def fI (l:List Nat):Nat:=l.foldl max 0
theorem rC (l:List Nat) (x:Nat):fI (l++[x])=max (fI l) x:=by simp[fI,List.foldl_append]
theorem pR {n:Nat}:∀ {l:List Nat},(∀ x∈l,x≤n)→fI l≤n:=by
 intro l h
 have key:∀ (l:List Nat) (a:Nat),a≤n→(∀ x∈l,x≤n)→l.foldl max a≤n:=by
  intro l
  induction l with
  |nil=>intro a ha _;exact ha
  |cons x r ih=>intro a ha h;exact ih _ (Nat.max_le.2 ⟨ha,h x (List.mem_cons_self ..)⟩) (fun y hy=>h y (List.mem_cons_of_mem _ hy))
 exact key l 0 (Nat.zero_le _) h
def fD:Nat→Ex→Nat
 |0,_=>0
 |m+1,e=>fI (e.parts.map (fD m))+1
theorem jR:∀ (m:Nat) (e:Ex),fD m e≤m
 |0,_=>Nat.le_refl _
 |m+1,e=>by
  have:=pR (n:=m) (l:=e.parts.map (fD m)) (fun x hx=>by
   obtain⟨p,_,rfl⟩:=List.mem_map.1 hx
   exact jR m p)
  unfold fD
  omega
theorem tk:∀ (m m':Nat) (e:Ex),e.wt≤m→e.wt≤m'→fD m e=fD m' e
 |0,_,e,h,_=>absurd e.b9 (by omega)
 |m+1,0,e,_,h=>absurd e.b9 (by omega)
 |m+1,m'+1,e,h,h'=>by
  unfold fD
  rw[List.map_congr_left (g:=fD m') fun p hp=>tk m m' p (by have:=Ex.bT hp;omega) (by have:=Ex.bT hp;omega)]
def dep (e:Ex):Nat:=fD e.wt e
theorem tp (e:Ex):dep e=fI (e.parts.map dep)+1:=by
 have hp:=e.b9
 obtain⟨m,hm⟩:∃ m,e.wt=m+1:=⟨e.wt - 1,by omega⟩
 unfold dep
 rw[hm,fD,List.map_congr_left (g:=fun p=>fD p.wt p) fun p hp=>tk m p.wt p (by have:=Ex.bT hp;omega) (Nat.le_refl _)]
def dL:Nat→Ex→List aE
 |0,_=>[]
 |m+1,.mk kd nm _ _ names ae binds alts=>(if kd=3 then names else [])++ae.flatMap (dL m)++binds.flatMap (fun b=>b.name::dL m b.e)++(if kd=6 then [nm] else [])++alts.flatMap (fun a=>a.names++dL m a.body)
theorem kU {α:Type} {f:α→List aE} {g:List α→Nat} {w:α→Nat} (h0:g []=0) (h1:∀ x l,g (x::l)=w x+g l):∀ {l:List α},(∀ x∈l,(f x).length≤w x)→(l.flatMap f).length≤g l
 |[],_=>by simp
 |x::r,h=>by
  have h2:=kU (l:=r) h0 h1 (fun y hy=>h y (List.mem_cons_of_mem _ hy))
  have h3:=h x (List.mem_cons_self ..)
  rw[List.flatMap_cons,List.length_append,h1]
  omega
theorem dz:∀ (m:Nat) (e:Ex),(dL m e).length≤e.wt
 |0,e=>by simp[dL]
 |m+1,.mk kd nm nn op names ae binds alts=>by
  have h1:(ae.flatMap (dL m)).length≤cw ae:=kU (w:=Ex.wt) rfl (fun _ _=>rfl) fun x _=>dz m x
  have h2:(binds.flatMap (fun b=>b.name::dL m b.e)).length≤aM binds:=kU (w:=Bd.wt) rfl (fun _ _=>rfl) fun b _=>by
   have:=dz m b.e
   have:=b.di
   simp only[List.length_cons];omega
  have h3:(alts.flatMap (fun a=>a.names++dL m a.body)).length≤cU alts:=kU (w:=Al.wt) rfl (fun _ _=>rfl) fun a _=>by
   have:=dz m a.body
   obtain⟨k,s,n,l,e⟩:=a
   have:=ff l
   simp only[Al.wt,Al.names,Al.body,List.length_append] at*;omega
  have h4:=ff names
  have h5:(if kd=3 then names else []).length≤names.length:=by split<;>simp
  have h6:(if kd=6 then [nm] else []).length≤1:=by split<;>simp
  simp only[dL,List.length_append,Ex.wt]
  omega
def pC (e:Ex):List aE:=dL e.wt e
theorem uo:∀ (m:Nat) (e:Ex) (st:BO),st.2.Nodup→(dr m e st).2.Nodup
 |0,e,st,h=>by simpa [dr] using h
 |m+1,e,st,h=>by
  rw[dr]
  split
  ·split
   ·exact rP h _
   ·exact h
  ·generalize aN e=l
   induction l generalizing st with
   |nil=>exact h
   |cons p l ih=>exact ih _ (uo m p.1 (iL st.1 p.2,st.2) h)
theorem C6 (e:Ex):(cX e).Pairwise (fun x y=>x<y):=by
 have tr:∀ a b c:List UInt8,(decide (a≤b))=true→(decide (b≤c))=true→(decide (a≤c))=true:=fun a b c h1 h2=>by simp only[decide_eq_true_eq] at*;exact List.le_trans h1 h2
 have to:∀ a b:List UInt8,(decide (a≤b)||decide (b≤a))=true:=fun a b=>by simp only[Bool.or_eq_true,decide_eq_true_eq];exact List.le_total a b
 have h1:(cX e).Pairwise (fun x y:List UInt8=>(decide (x≤y))=true):=List.pairwise_mergeSort tr to _
 have h2:(cX e).Nodup:=(fM _).nodup_iff.2 (uo _ e ([],[]) List.nodup_nil)
 refine List.pairwise_iff_getElem.2 fun i j hi hj hij=>?_
 have h:=List.pairwise_iff_getElem.1 h1 i j hi hj hij
 have hn:=List.pairwise_iff_getElem.1 h2 i j hi hj hij
 generalize (cX e)[i]=a at*
 generalize (cX e)[j]=b at*
 have h:a≤b:=of_decide_eq_true h
 rcases Classical.em (a<b) with h3|h3
 ·exact h3
 ·exact(hn (List.le_antisymm h h3)).elim
theorem fT {α:Type} (f:α→List aE) (pre:List aE) (l:List α):∃ L:Nat→List aE,L 0=pre∧(∀ (i:Nat) (h:i<l.length),L (i+1)=L i++f l[i])∧(∀ i,(L i).length≤(pre++l.flatMap f).length)∧L l.length=pre++l.flatMap f:=by
 refine⟨fun i=>pre++(l.take i).flatMap f,by simp,fun i h=>?_,fun i=>?_,by simp⟩
 ·simp only[List.take_succ_eq_append_getElem h,List.flatMap_append,List.flatMap_cons,List.flatMap_nil,List.append_nil,List.append_assoc]
 ·have h:l.flatMap f=(l.take i).flatMap f++(l.drop i).flatMap f:=by rw[← List.flatMap_append,List.take_append_drop]
  simp only[h,List.length_append];omega
def Lg (G:Gl) (m:Nat):Prop:=∀ (e:Ex) (H:List ax),e.wt≤m→e.wt<4294967296→af Tryz.prog G 104 [e.sv] H (fun r H'=>H'=H++[.cells 0 1 ((dL m e).map .str)]∧r= .sl H.length 0 0 (dL m e).length)
theorem qi (G:Gl) (hG:au G):∀ m,Lg G m
 |0,e,H,h,_=>absurd e.b9 (by omega)
 |m+1,e,H,hm,hw0=>by
  have hrec:=qi G hG m
  obtain⟨kd,nm,nn,op,names,ae,binds,alts⟩:=e
  have hle:=Ex.cm kd nm nn op names ae binds alts
  have hln:=dz (m+1) (.mk kd nm nn op names ae binds alts)
  have hpw:∀ p∈(Ex.mk kd nm nn op names ae binds alts).parts,p.wt≤m∧p.wt<4294967296:=fun p hp=>by have:=Ex.bT hp;exact⟨by omega,by omega⟩
  rw[Ex.bM] at hpw
  have eb:dL (m+1) (.mk kd nm nn op names ae binds alts)=(if kd=3 then names else [])++ae.flatMap (dL m)++binds.flatMap (fun b=>b.name::dL m b.e)++(if kd=6 then [nm] else [])++alts.flatMap (fun a=>a.names++dL m a.body):=rfl
  rw[eb] at hln ⊢
  clear eb
  have h3n:(if kd=3 then names else []).length≤names.length:=by split<;>simp
  generalize hl0:(if kd=3 then names else [])=l0 at*
  generalize hl5:(if kd=6 then [nm] else [])=l5 at*
  obtain⟨L1,a1,a2,a3,a4⟩:=fT (dL m) l0 ae
  rw[← a4] at hln ⊢
  obtain⟨L2,b1,b2,b3,b4⟩:=fT (fun b:Bd=>b.name::dL m b.e) (L1 ae.length) binds
  rw[← b4] at hln ⊢
  obtain⟨L4,d1,d2,d3,d4⟩:=fT (fun a:Al=>a.names++dL m a.body) (L2 binds.length++l5) alts
  rw[← d4] at hln ⊢
  rw[← a4] at a3
  rw[← b4] at b3
  rw[← d4] at d3
  have q4:(L2 binds.length).length+l5.length≤(L4 alts.length).length:=by have:=d3 0;rw[d1,List.length_append] at this;exact this
  have q2:(L1 ae.length).length≤(L2 binds.length).length:=by have:=b3 0;rw[b1] at this;exact this
  generalize hW:(Ex.mk kd nm nn op names ae binds alts).wt=W at*
  refine af.aD TB [3] aA _ Tryz.func104 rfl (by decide) Tryz.ntmps104 (by simp) rfl (by simp only[ap,Nat.reduceAdd];rfl) fun C R' hR hC hcl hB=>?_;have X:=aF;have hC':=congrArg List.length hC
  (refine dW ?_;with_reducible repeat' first|exact trivial|(apply ad.mk<;>intro hb)|apply av.mk)
  refine dQ (fun _:Unit=>[(1,.ptr H.length 0 0 0),(3,.sl (H.length+1) 0 0 l0.length)]) (fun _=>H++[.cells 0 8 [.agg [.int .i64 kd,.str nm,.int .i64 nn,.int .i64 op,.list 1 (names.map .str),.list 8 (ag ae),.list 9 (ah binds),.list 12 (aw alts)]],.cells 0 1 (l0.map .str)]) (fun _=>True) (fun K hK=>?_) (fun _ _=>?_)
  ·(refine bL ?_;with_reducible repeat' first|exact trivial|(apply ad.mk<;>intro hb)|apply av.mk)
   ·refine hK _ _ () trivial ?_
    rw[if_pos hb] at hl0
    subst hl0
    exact aY (n0:=H.length) [(H.length,0),(H.length+1,0)] hG hB hC' hcl
   ·refine hK _ _ () trivial ?_
    rw[if_neg hb] at hl0
    subst hl0
    simp only[List.length_nil,List.map_nil]
    exact aY (n0:=H.length) [(H.length,0),(H.length+1,0)] hG hB hC' hcl
  (refine bL ?_;with_reducible repeat' first|exact trivial|(apply ad.mk<;>intro hb)|apply av.mk)
  refine az (fun i:Nat=>[(1,.ptr H.length 0 0 0),(3,.sl (H.length+1) 0 0 (L1 i).length),(18,.list 8 (ag ae)),(19,.int .i64 ae.length),(20,.int .i64 i)])
   (fun i=>H++[.cells 0 8 [.agg [.int .i64 kd,.str nm,.int .i64 nn,.int .i64 op,.list 1 (names.map .str),.list 8 (ag ae),.list 9 (ah binds),.list 12 (aw alts)]],.cells 0 1 ((L1 i).map .str)]) (fun i=>ae.length - i) (fun i=>i≤ae.length) 0 (Nat.zero_le _) ?_ ?_
  ·rw[a1]
   exact Wk.sub (by simp[bg,look])
  rintro K i hi hK
  rcases Nat.lt_or_ge i ae.length with hlt|hge
  ·have c1:=fun H=>hrec ae[i] H (hpw _ (by simp)).1 (hpw _ (by simp)).2
   have e1:=a2 i hlt
   have e2:=a3 (i+1)
   have e3:=a3 i
   have e4:=dz m ae[i]
   have e5:=(hpw ae[i] (by simp)).2
   rw[e1,List.length_append] at e2
   generalize dL m ae[i]=l at*
   generalize L1 i=l1 at*
   have X:=And.intro aF (show(l1.map SV.str).length=l1.length∧(l.map SV.str).length=l.length from⟨List.length_map ..,List.length_map ..⟩)
   (refine run ?_;with_reducible repeat' first|exact trivial|(apply ad.mk<;>intro hb)|apply av.mk)
   refine hK _ _ (i+1) (by omega) (by omega) ?_
   rw[e1,List.map_append,show(l1++l).length=l1.length+l.length from List.length_append ..]
   exact aY (n0:=H.length) [(H.length,0),(H.length+1,0)] hG hB hC' hcl
  obtain rfl:i=ae.length:=by omega
  clear hK
  (refine bL ?_;with_reducible repeat' first|exact trivial|(apply ad.mk<;>intro hb)|apply av.mk)
  refine az (fun i:Nat=>[(1,.ptr H.length 0 0 0),(3,.sl (H.length+1) 0 0 (L2 i).length),(30,.list 9 (ah binds)),(31,.int .i64 binds.length),(32,.int .i64 i)])
   (fun i=>H++[.cells 0 8 [.agg [.int .i64 kd,.str nm,.int .i64 nn,.int .i64 op,.list 1 (names.map .str),.list 8 (ag ae),.list 9 (ah binds),.list 12 (aw alts)]],.cells 0 1 ((L2 i).map .str)]) (fun i=>binds.length - i) (fun i=>i≤binds.length) 0 (Nat.zero_le _) ?_ ?_
  ·rw[b1]
   exact Wk.sub (by simp[bg,look])
  rintro K i hi hK
  rcases Nat.lt_or_ge i binds.length with hlt|hge
  ·have hpb:=hpw binds[i].e (by simp;exact .inr (.inl ⟨_,List.getElem_mem hlt,rfl⟩))
   have c1:=fun H=>hrec binds[i].e H hpb.1 hpb.2
   have e1:=b2 i hlt
   have e2:=b3 (i+1)
   have e3:=b3 i
   have e4:=dz m binds[i].e
   rw[e1,List.length_append] at e2
   simp only[List.length_cons] at e2
   generalize dL m binds[i].e=l at*
   generalize L2 i=l1 at*
   have X:=And.intro aF (show(l1.map SV.str).length=l1.length∧(l.map SV.str).length=l.length from⟨List.length_map ..,List.length_map ..⟩)
   (refine run ?_;with_reducible repeat' first|exact trivial|(apply ad.mk<;>intro hb)|apply av.mk)
   refine hK _ _ (i+1) (by omega) (by omega) ?_
   rw[e1,List.map_append,List.map_cons,show(l1++binds[i].name::l).length=l1.length+(1+l.length) from by simp;omega]
   exact aY (n0:=H.length) [(H.length,0),(H.length+1,0)] hG hB hC' hcl
  obtain rfl:i=binds.length:=by omega
  clear hK
  (refine dW ?_;with_reducible repeat' first|exact trivial|(apply ad.mk<;>intro hb)|apply av.mk)
  refine cP rfl (by omega) ?_
  (refine dW ?_;with_reducible repeat' first|exact trivial|(apply ad.mk<;>intro hb)|apply av.mk)
  refine dQ (fun _:Unit=>[(1,.ptr H.length 0 0 0),(3,.sl (H.length+1) 0 0 (L2 binds.length++l5).length)]) (fun _=>H++[.cells 0 8 [.agg [.int .i64 kd,.str nm,.int .i64 nn,.int .i64 op,.list 1 (names.map .str),.list 8 (ag ae),.list 9 (ah binds),.list 12 (aw alts)]],.cells 0 1 ((L2 binds.length++l5).map .str)]) (fun _=>True) (fun K hK=>?_) (fun _ _=>?_)
  ·have X:=And.intro aF (show((L2 binds.length).map SV.str).length=(L2 binds.length).length from List.length_map ..)
   (refine bL ?_;with_reducible repeat' first|exact trivial|(apply ad.mk<;>intro hb)|apply av.mk)
   ·refine hK _ _ () trivial ?_
    rw[if_pos hb] at hl5
    subst hl5
    rw[List.map_append,List.length_append,List.length_singleton]
    exact aY (n0:=H.length) [(H.length,0),(H.length+1,0)] hG hB hC' hcl
   ·refine hK _ _ () trivial ?_
    rw[if_neg hb] at hl5
    subst hl5
    rw[List.append_nil]
    exact aY (n0:=H.length) [(H.length,0),(H.length+1,0)] hG hB hC' hcl
  (refine bL ?_;with_reducible repeat' first|exact trivial|(apply ad.mk<;>intro hb)|apply av.mk)
  refine az (fun i:Nat=>[(1,.ptr H.length 0 0 0),(3,.sl (H.length+1) 0 0 (L4 i).length),(55,.list 12 (aw alts)),(56,.int .i64 alts.length),(57,.int .i64 i)])
   (fun i=>H++[.cells 0 8 [.agg [.int .i64 kd,.str nm,.int .i64 nn,.int .i64 op,.list 1 (names.map .str),.list 8 (ag ae),.list 9 (ah binds),.list 12 (aw alts)]],.cells 0 1 ((L4 i).map .str)]) (fun i=>alts.length - i) (fun i=>i≤alts.length) 0 (Nat.zero_le _) ?_ ?_
  ·rw[d1]
   exact Wk.sub (by simp[bg,look])
  rintro K i hi hK
  rcases Nat.lt_or_ge i alts.length with hlt|hge
  ·have hpb:=hpw alts[i].body (by simp;exact .inr (.inr ⟨_,List.getElem_mem hlt,rfl⟩))
   have c1:=fun H=>hrec alts[i].body H hpb.1 hpb.2
   have e1:=d2 i hlt
   have e2:=d3 (i+1)
   have e3:=d3 i
   have e4:=dz m alts[i].body
   rw[e1,List.length_append] at e2
   simp only[List.length_append] at e2
   generalize dL m alts[i].body=l at*
   generalize L4 i=l1 at*
   have X:=And.intro aF (show(l1.map SV.str).length=l1.length∧(l.map SV.str).length=l.length from⟨List.length_map ..,List.length_map ..⟩)
   (refine run ?_;with_reducible repeat' first|exact trivial|(apply ad.mk<;>intro hb)|apply av.mk)
   refine hK _ _ (i+1) (by omega) (by omega) ?_
   rw[e1,List.map_append,List.map_append,show(l1++(alts[i].names++l)).length=l1.length+(alts[i].names.length+l.length) from by simp]
   exact aY (n0:=H.length) [(H.length,0),(H.length+1,0)] hG hB hC' hcl
  obtain rfl:i=alts.length:=by omega
  clear hK
  (refine bL ?_;with_reducible repeat' first|exact trivial|(apply ad.mk<;>intro hb)|apply av.mk)
  exact dp [(H.length+1,0)] (.sl H.length 0 0 (L4 alts.length).length) [.cells 0 1 ((L4 alts.length).map .str)] hR hC' hcl ⟨rfl,rfl⟩
structure Cn where
 name:aE
 arity:Int
 tag:Int
 family:Int
deriving DecidableEq,Inhabited
def Cn.cells (c:Cn):List SV:=[.str c.name,.int .i64 c.arity,.int .i64 c.tag,.int .i64 c.family]
def Cn.sv (c:Cn):SV:= .agg c.cells
def aH (l:List Cn):List SV:=l.map Cn.sv
structure Pg where
 cons:List Cn
 binds:List Bd
def Pg.cells (p:Pg):List SV:=[.list 4 (aH p.cons),.list 9 (ah p.binds)]
def Pg.sv (p:Pg):SV:= .agg p.cells
theorem eE (l:List Cn):(aH l).length=l.length:=by simp[aH]
theorem fh (l:List Cn) {i:Nat} (h:i<l.length):(aH l)[i]? =some (.agg l[i].cells):=by simp[aH,h,Cn.sv]
theorem uL (l:List Cn) (i:Nat):(aH l)[i]? =l[i]?.map fun c=> .agg [.str c.name,.int .i64 c.arity,.int .i64 c.tag,.int .i64 c.family]:=by simp[aH,Cn.sv,Cn.cells];rfl
attribute [go_sem] eE uL
theorem bf (n:Nat) (l:List Cn):SV.aB n (aH l)=true:=SV.bC fun _ _=>by simp[Cn.sv,Cn.cells,SV.under,SV.aB]
theorem Cn.bS (c:Cn):c.cells.length=4:=rfl
def de:Nat→(Ex→Bool)→Ex→Bool
 |0,_,_=>true
 |m+1,p,e=>p e&&e.parts.all (de m p)
theorem s8 (p:Ex→Bool):∀ (m m':Nat) (e:Ex),e.wt≤m→e.wt≤m'→de m p e=de m' p e
 |0,_,e,h,_=>absurd e.b9 (by omega)
 |m+1,0,e,_,h=>absurd e.b9 (by omega)
 |m+1,m'+1,e,h,h'=>by
  have h1:e.parts.all (de m p)=e.parts.all (de m' p):=by
   rw[Bool.eq_iff_iff,List.all_eq_true,List.all_eq_true]
   refine forall_congr' fun x=>forall_congr' fun hx=>?_
   have:=Ex.bT hx
   rw[s8 p m m' x (by omega) (by omega)]
  rw[de,de,h1]
def dn (p:Ex→Bool) (e:Ex):Bool:=de e.wt p e
theorem mU (p:Ex→Bool) (e:Ex):dn p e=(p e&&e.parts.all (dn p)):=by
 have hp:=e.b9
 obtain⟨m,hm⟩:∃ m,e.wt=m+1:=⟨e.wt - 1,by omega⟩
 have h1:e.parts.all (de m p)=e.parts.all (dn p):=by
  rw[Bool.eq_iff_iff,List.all_eq_true,List.all_eq_true]
  refine forall_congr' fun x=>forall_congr' fun hx=>?_
  have:=Ex.bT hx
  rw[dn,s8 p m x.wt x (by omega) (Nat.le_refl _)]
 rw[dn,hm,de,h1]
def mw (op:Int):Int:=if 1≤op∧op≤8 then 2 else if op=10 then 1 else if op=9∨op=11 then 0 else -1
def eV (a:Al):Bool:=if a.kind=1 then !decide (a.n=0) else if a.kind=2 then (!decide (a.name=[])||decide (0<a.names.length)) else if a.kind=3 then (!decide (a.name=[])||decide (0<a.names.length)||!decide (a.n=0)) else true
def il (name names binds alts op n:Bool) (ae:Int):Ex→Bool
 | .mk kd nm nn o ns ss bs als=>(!name&&!decide (nm=[]))||(!names&&decide (0<ns.length))||(!binds&&decide (0<bs.length))||(!alts&&decide (0<als.length))||(!op&&!decide (o=0))||(op&&decide (mw o<0))||(!n&&!decide (nn=0))||(decide (0≤ae)&&!decide ((ss.length:Int)=ae))
def dN (e:Ex):Bool:=
 if e.kind=1 then !il true false false false false false 0 e&&!(e.alts.any eV)
 else if e.kind=2 then !il false false false false false true 0 e&&!(e.alts.any eV)
 else if e.kind=3 then !il false true false false false false 1 e&&!(e.alts.any eV)
 else if e.kind=4 then !il false false false false false false (-1) e&&!(e.alts.any eV)
 else if e.kind=5 then !il false false true false false false 1 e&&!(e.alts.any eV)
 else if e.kind=6 then !il true false false true false false 1 e&&!(e.alts.any eV)
 else if e.kind=7 then !il true false false false false false (-1) e&&!(e.alts.any eV)
 else if e.kind=8 then !il false false false false true false (-1) e&&!(e.alts.any eV)
 else false
def pK (l:List Cn):List (SV×SV):=l.map fun c=>(.str c.name,c.sv)
def bU:List Cn→aE→Option Cn
 |[],_=>none
 |c::r,s=>if s=c.name then some c else bU r s
def I1:Cn:=⟨[],0,0,0⟩
def bQ (l:List Cn) (s:aE):Cn:=(bU l s).getD I1
theorem mB:∀ (l:List Cn) (s:aE),bI (pK l) (.str s)=(bU l s).map Cn.sv
 |[],s=>rfl
 |c::r,s=>by
  simp only[pK,List.map_cons,bI,SV.dX,bU]
  by_cases h:s=c.name
  ·simp[h]
  ·simp only[beq_eq_false_iff_ne.2 h,h,if_false,Bool.false_eq_true]
   exact mB r s
theorem xf (l:List Cn) (s:aE):(bI (pK l) (.str s)).getD (.agg [.str [],.int .i64 0,.int .i64 0,.int .i64 0])= .agg (bQ l s).cells:=by
 rw[mB,bQ]
 cases bU l s<;>rfl
theorem Ak (l:List Cn) (s:aE):(bI (pK l) (.str s)).isSome=(bU l s).isSome:=by
 rw[mB];cases bU l s<;>rfl
theorem ue:∀ (l:List Cn) (c:Cn),bU l c.name=none→cG (pK l) (.str c.name) (.agg c.cells)=pK (l++[c])
 |[],c,_=>rfl
 |d::r,c,h=>by
  simp only[pK,List.map_cons,cG,SV.dX,bU,List.cons_append] at h ⊢
  by_cases h2:c.name=d.name
  ·rw[if_pos h2] at h;cases h
  ·rw[if_neg h2] at h
   simp only[beq_eq_false_iff_ne.2 h2,if_false,Bool.false_eq_true]
   rw[show cG (List.map _ r) (.str c.name) (.agg c.cells)=_ from ue r c h]
   rfl
theorem tq (n:Nat):∀ l:List Cn,cY n (pK l)=true
 |[]=>rfl
 |p::l=>by simp only[pK,List.map_cons,cY,SV.under,SV.aB,Cn.sv,Cn.cells,Bool.and_self,Bool.true_and];exact tq n l
def GG (a b:aE):Bool:=decide (a=b)
def kG (l:List Cn) (c:Cn):Bool:=!((bU l c.name).isSome||GG c.name []||decide (c.arity<0)||decide (100<c.arity)||decide (c.family<1)||decide (1000<c.family)||decide (c.tag<0)||decide (c.family≤c.tag))
def fY:List Cn→List Cn→Bool
 |_,[]=>true
 |l,c::r=>kG l c&&fY (l++[c]) r
theorem tQ:∀ (r l:List Cn),fY l r=(List.range r.length).all fun i=>kG (l++r.take i) (r.getD i I1)
 |[],l=>rfl
 |c::r,l=>by
  rw[fY,tQ r,List.length_cons,List.range_succ_eq_map,List.all_cons,List.all_map]
  simp[Function.comp_def]
def kA (l:List Cn) (s:aE) (k:Int):Bool:=(bU l s).isSome&&decide ((bQ l s).arity=k)
def kW (l:List Cn) (e:Ex):Bool:=
 if e.kind=3 then decide (0<e.names.length) else if e.kind=4 then decide (1<e.ae.length) else if e.kind=5 then decide (0<e.binds.length)
 else if e.kind=7 then kA l e.name e.ae.length else if e.kind=8 then decide ((e.ae.length:Int)=mw e.op)
 else !(e.alts.any fun a=>decide (a.kind=1)&&!kA l a.name a.names.length)
def ga (l:List Al):List Al:=if l.length=0 then l else if ((l.getLast?.map Al.kind).getD 0)=3 then l.take (l.length - 1) else l
def kB (cs:List Cn) (l:List Al) (k0:Int) (s0:aE) (a:Al):Bool:=
 decide (a.kind=3)||!decide (a.kind=k0)||(decide (a.name∈l.map Al.name)&&decide (a.kind=1))||(decide (a.n∈l.map Al.n)&&decide (a.kind=2))||(decide (a.kind=1)&&!decide ((bQ cs a.name).family=(bQ cs s0).family))
def gg (cs:List Cn) (k0:Int) (s0:aE):List Al→List Al→Bool
 |_,[]=>false
 |l,a::r=>kB cs l k0 s0 a||gg cs k0 s0 (l++[a]) r
def Dp (l:List Al):Int:=(l.head?.map Al.kind).getD 0
def Dq (l:List Al):aE:=(l.head?.map Al.name).getD []
def kL (cs:List Cn) (e:Ex):Bool:=if e.kind≠6 then true else !gg cs (Dp (ga e.alts)) (Dq (ga e.alts)) [] (ga e.alts)&&decide (0<e.alts.length)
def ma:List Cn:=[⟨[80,114,105,109,46,70,97,108,115,101],0,0,2⟩,⟨[80,114,105,109,46,84,114,117,101],0,1,2⟩,⟨[80,114,105,109,46,40,41],0,0,1⟩,⟨[80,114,105,109,46,66,111,120],1,0,1⟩]
def ln (l:List Cn):Bool:=ma.all fun c=>decide (bQ l c.name=c)
def aP (l:List Bd):List aE:=l.flatMap fun b=>b.name::pC b.e
def dc (l:List aE):Nat→List aE
 |0=>[]
 |m+1=>if 0<m∧l.getD m []=l.getD (m - 1) [] then dc l m else dc l m++[l.getD m []]
def oq (l:List aE):List aE:=dc l l.length
def cK (l:List Bd):Bool:=(decide (0<(aP l).length)&&GG ((dU (aP l)).getD 0 []) [])||decide ((oq (dU (aP l))).length≠(aP l).length)
def fp (l:List Bd):List (aE×Int):=l.foldl (fun t b=>mN t b.name 1) []
def l9 (t:List (aE×Int)) (b:Bd):Bool:=decide ((dr b.e.wt b.e (t,[])).2.length=0)
def lu:aE:=[77,97,105,110,46,109,97,105,110]
def dK (l:List Bd):Nat:=(l.map fun b=>b.e.size).sum
def gM (l:List Bd):Nat:=fI (l.map fun b=>dep b.e)
def bA (p:Pg):Int:=
 if 100000<dK p.binds then 3 else if 1000<gM p.binds then 4
 else if !(p.binds.all fun b=>dn dN b.e) then 120
 else if !fY [] p.cons then 121
 else if cK p.binds then 122
 else if !(p.binds.all (l9 (fp p.binds))) then 123
 else if !(ln p.cons&&p.binds.all fun b=>dn (kW p.cons) b.e) then 124
 else if !(p.binds.all fun b=>dn (kL p.cons) b.e) then 125
 else if cv (fp p.binds) lu=0 then 126 else 0
structure Od where
 name:aE
 arity:Int
 bN:List Int
deriving Inhabited
def cc (l:List Int):List SV:=l.map (SV.int .i64)
def Od.cells (o:Od):List SV:=[.str o.name,.int .i64 o.arity,.list 1 (cc o.bN)]
def Od.sv (o:Od):SV:= .agg o.cells
def aK (l:List Od):List SV:=l.map Od.sv
theorem rl (l:List Int):(cc l).length=l.length:=by simp[cc]
theorem eH (l:List Od):(aK l).length=l.length:=by simp[aK]
theorem eF (n:Nat) (l:List Int):SV.aB n (cc l)=true:=SV.bC fun _ _=>rfl
theorem Od.under (n:Nat) (o:Od):SV.aB n o.cells=true:=by simp[Od.cells,SV.aB,SV.under,eF]
theorem bO (n:Nat) (l:List Od):SV.aB n (aK l)=true:=SV.bC fun o _=>o.under n
def mR:Nat→Ex→List aE
 |0,_=>[]
 |m+1,e=>(if e.kind=1 then [e.name] else [])++e.parts.flatMap (mR m)
def mf (op:Int):Bool:=decide (1≤op)&&decide (op≤8)&&decide (op≠4)&&decide (op≠5)
def lE:Nat→Ex→Bool
 |0,_=>false
 |m+1,e=>if e.kind=2∨e.kind=1 then true else if e.kind=8 then mf e.op&&!(e.ae.any fun s=>!lE m s) else false
def bH:List Od→aE→Option Od
 |[],_=>none
 |o::r,s=>if s=o.name then some o else bH r s
def oK:Od:=⟨[],0,[]⟩
def cN (l:List Od) (s:aE):Od:=(bH l s).getD oK
def bc:List Od→List Od→List Od
 |k,[]=>k
 |k,o::r=>if (bH k o.name).isSome then bc k r else bc (k++[o]) r
def cu (k:List Od) (e:Ex):Od×Bool:=
 match e.ae with
 |[]=>(oK,false)
 |s::r=>if s.kind≠1 then (oK,false) else (cN k s.name,(bH k s.name).isSome&&decide ((cN k s.name).arity<((s::r).length:Int)))
def cn (l more:List aE):List aE:=more.foldl fz l
def cp (l names:List aE):List aE:=l.takeWhile fun n=>!decide (n∈names)
def fc (f:Ex→List aE) (sim:Ex→Bool):List aE→List Ex→List aE
 |out,[]=>out
 |out,e::r=>if sim e then fc f sim (cn out (f e)) r else cn out (f e)
def iO:Ex:= .mk 0 [] 0 0 [] [] [] []
def fg (ae:List Ex):List Int→List Ex
 |[]=>[]
 |n::r=>if n<0∨(ae.length:Int) - 1≤n then [] else (ae.getD (n.toNat+1) iO)::fg ae r
def yD:List aE→List aE→List aE
 |x::a,y::b=>if x=y then x::yD a b else []
 |_,_=>[]
def pB (f:Ex→List aE) (nm:aE) (out:List aE) (a:Al):List aE:=cp ((f a.body).filter fun n=>!(decide (n=nm)||decide (n∈out))) a.names
def yT (f:Ex→List aE) (nm:aE) (out:List aE):List aE→List Al→List aE
 |c,[]=>c
 |c,a::r=>yT f nm out (yD c (pB f nm out a)) r
def jQ (f:Ex→List aE) (nm:aE) (out:List aE):List Al→List aE
 |[]=>[]
 |a::r=>yT f nm out (pB f nm out a) r
def qp (f:Ex→List aE) (sim:Ex→Bool) (nm:aE) (s:Ex) (alts:List Al):List aE:=if sim s then cn (f s) (jQ f nm (f s) alts) else f s
def aZ (sim:Ex→Bool) (k:List Od):Nat→Ex→List aE
 |0,_=>[]
 |m+1,e=>if e.kind=1 then [e.name] else
  match e.ae with
  |[]=>[]
  |s::r=>
   if e.kind=8 then (if 0<r.length∧1≤e.op∧e.op≤8 then fc (aZ sim k m) sim [] (e.ae.take 2) else aZ sim k m s)
   else if e.kind=4 then (if (cu k e).2 then fc (aZ sim k m) sim [] (fg e.ae (cu k e).1.bN) else aZ sim k m s)
   else if e.kind=5 then cp (aZ sim k m s) (e.binds.map Bd.name)
   else if e.kind=6 then qp (aZ sim k m) sim e.name s e.alts
   else []
theorem LJ {l:List aE} {s t:aE}:s∈fz l t↔s∈l∨s=t:=by
 unfold fz
 split
 ·rename_i h
  constructor
  ·exact .inl
  ·rintro (h2|rfl)
   ·exact h2
   ·exact h
 ·simp
theorem gD {s:aE}:∀ {more l:List aE},s∈cn l more↔s∈l∨s∈more
 |[],l=>by simp[cn]
 |t::r,l=>by
  rw[cn,List.foldl_cons,← cn,gD (more:=r),LJ,List.mem_cons]
  constructor
  ·rintro ((h|h)|h)
   ·exact .inl h
   ·exact .inr (.inl h)
   ·exact .inr (.inr h)
  ·rintro (h|h|h)
   ·exact .inl (.inl h)
   ·exact .inl (.inr h)
   ·exact .inr h
theorem fj:∀ {more l:List aE},l.Nodup→(cn l more).Nodup
 |[],l,h=>h
 |t::r,l,h=>by rw[cn,List.foldl_cons,← cn];exact fj (rP h t)
theorem rE {s:aE} {l names:List aE} (h:s∈cp l names):s∈l∧s∉names:=by
 refine⟨(List.takeWhile_sublist _).subset h,?_⟩
 induction l with
 |nil=>cases h
 |cons x r ih=>
  rw[cp,List.takeWhile_cons] at h
  split at h
  ·rename_i hx
   rcases List.mem_cons.1 h with rfl|h
   ·simpa using hx
   ·exact ih h
  ·cases h
theorem n8 {l names:List aE} (h:l.Nodup):(cp l names).Nodup:=(List.takeWhile_sublist _).nodup h
theorem AE:∀ (a b:List aE),(yD a b).Sublist a
 |[],b=>by simp[yD]
 |x::a,[]=>by simp[yD]
 |x::a,y::b=>by
  rw[yD]
  split
  ·exact(AE a b).cons_cons x
  ·exact List.nil_sublist _
theorem qw (f:Ex→List aE) (nm:aE) (out:List aE):∀ (l:List Al) (c:List aE),(yT f nm out c l).Sublist c
 |[],c=>List.Sublist.refl _
 |a::r,c=>(qw f nm out r _).trans (AE _ _)
theorem CO (f:Ex→List aE) (nm:aE) (out:List aE) (hf:∀ e,(f e).Nodup):∀ (l:List Al),(jQ f nm out l).Nodup∧∀ s∈jQ f nm out l,∃ a∈l,s∈pB f nm out a
 |[]=>⟨List.nodup_nil,fun s h=>by cases h⟩
 |a::r=>by
  have h:=qw f nm out r (pB f nm out a)
  refine⟨h.nodup (n8 ((List.filter_sublist ..).nodup (hf _))),fun s hs=>⟨a,List.mem_cons_self ..,h.subset hs⟩⟩
theorem rX (f:Ex→List aE) (sim:Ex→Bool) {s:aE}:∀ (l:List Ex) (out:List aE),s∈fc f sim out l→s∈out∨∃ e∈l,s∈f e
 |[],out,h=> .inl h
 |e::r,out,h=>by
  rw[fc] at h
  split at h
  ·rcases rX f sim r _ h with h|⟨x,h1,h2⟩
   ·rcases gD.1 h with h|h
    ·exact .inl h
    ·exact .inr ⟨e,List.mem_cons_self ..,h⟩
   ·exact .inr ⟨x,List.mem_cons_of_mem _ h1,h2⟩
  ·rcases gD.1 h with h|h
   ·exact .inl h
   ·exact .inr ⟨e,List.mem_cons_self ..,h⟩
theorem mM (f:Ex→List aE) (sim:Ex→Bool):∀ (l:List Ex) (out:List aE),out.Nodup→(fc f sim out l).Nodup
 |[],out,h=>h
 |e::r,out,h=>by
  rw[fc]
  split
  ·exact mM f sim r _ (fj h)
  ·exact fj h
theorem ta (ae:List Ex) {x:Ex}:∀ (l:List Int),x∈fg ae l→x∈ae
 |[],h=>by cases h
 |n::r,h=>by
  rw[fg] at h
  split at h
  ·cases h
  ·rename_i hn
   rcases List.mem_cons.1 h with h|h
   ·subst h
    have:n.toNat+1<ae.length:=by omega
    rw[List.getD_eq_getElem?_getD,List.getElem?_eq_getElem this]
    exact List.getElem_mem this
   ·exact ta ae r h
theorem gB (sim:Ex→Bool) (k:List Od):∀ (m:Nat) (e:Ex),(aZ sim k m e).Nodup
 |0,e=>List.nodup_nil
 |m+1,e=>by
  have ih:=gB sim k m
  rw[aZ]
  split
  ·simp
  ·split
   ·simp
   ·rename_i s r _
    split
    ·split
     ·exact mM _ _ _ _ List.nodup_nil
     ·exact ih s
    ·split
     ·split
      ·exact mM _ _ _ _ List.nodup_nil
      ·exact ih s
     ·split
      ·exact n8 (ih s)
      ·split
       ·unfold qp
        split
        ·exact fj (ih s)
        ·exact ih s
       ·simp
theorem qX {α:Type} (p:α→Bool) (l:List α):(match l.findIdx? p with|some i=>decide (0≤(i:Int))|none=>false)=l.any p:=by
 cases h:l.findIdx? p with
 |none=>rw[List.findIdx?_eq_none_iff] at h;simp only;symm;rw[List.any_eq_false];intro x hx;simp[h x hx]
 |some i=>
  obtain⟨hi,hp,_⟩:=List.findIdx?_eq_some_iff_getElem.1 h
  have:(0:Int)≤i:=by omega
  simp only[this,decide_true]
  symm;rw[List.any_eq_true]
  exact⟨_,List.getElem_mem hi,hp⟩
theorem v8 (G:Gl) (hG:au G) (f:SV) (p:Bd→Bool) (V:List Bd) (H:List ax) (hl:V.length<1125899906842624) (hfu:f.under H.length=true)
 (hf:∀ x∈V,bz Tryz.prog G f [x.sv] H (fun r H'=>H'=H∧r= .bool (p x))):
 af Tryz.prog G 46 [.list 9 (ah V),f] H (fun r H'=>H'=H∧r= .bool (V.any p)):=by
 have hidx:af Tryz.prog G 102 [.list 9 (ah V),f] H (fun r H'=>H'=H∧r= .int .i64 (match V.findIdx? p with|some i=>(i:Int)|none=> -1)):=by
  have hlm:(ah V).length=V.length:=by rw[aV,List.length_map]
  refine af.aD TB [] aA _ Tryz.func102 rfl (by decide) Tryz.ntmps102 (by simp) rfl (by simp only[ap,Nat.reduceAdd];rfl) fun C R' hR hC hcl hB=>?_;have X:=aF;have hC':=congrArg List.length hC
  have X:=And.intro X hlm
  have hcl1:=hcl
  (refine run ?_;with_reducible repeat' first|exact trivial|(apply ad.mk<;>intro hb)|apply av.mk)
  refine az (fun k:Nat=>[(0,.list 9 (ah V)),(1,f),(7,.int .i64 V.length),(8,.int .i64 k)]) (fun _=>H) (fun k=>V.length - k) (fun k=>k≤V.length∧∀ x∈V.take k,p x=false) 0 ⟨Nat.zero_le _,by simp⟩ (Wk.sub (by simp[bg,look])) ?_
  rintro K k ⟨hk,hno⟩ hK
  rcases Nat.lt_or_ge k V.length with hlt|hge
  ·have e1:(ah V)[k]? =some (.agg V[k].cells):=by simp[aV,hlt,Bd.sv]
   have hfk:=hf V[k] (List.getElem_mem hlt)
   have hsv:V[k].sv= .agg V[k].cells:=rfl
   rw[hsv] at hfk
   have X:=And.intro X e1
   (refine run ?_;with_reducible repeat' first|exact trivial|(apply ad.mk<;>intro hb)|apply av.mk)
   refine eX hfk ?_
   rintro r H' ⟨rfl,rfl⟩
   (refine run ?_;with_reducible repeat' first|exact trivial|(apply ad.mk<;>intro hb)|apply av.mk)
   ·have hfi:V.findIdx? p=some k:=by
     rw[List.findIdx?_eq_some_iff_getElem]
     refine⟨hlt,by simpa using hb,fun j hj=>?_⟩
     have:=hno (V[j]'(by omega)) (by rw[List.mem_take_iff_getElem];exact⟨j,by omega,rfl⟩)
     simp[this]
    refine Fin.out hR ⟨rfl,?_⟩
    simp only[bq,hfi]
   ·refine hK _ _ (k+1) (by omega) ⟨by omega,?_⟩ (Wk.sub (by simp[bg,look]))
    rw[List.take_succ_eq_append_getElem hlt]
    intro x hx
    rcases List.mem_append.1 hx with hx|hx
    ·exact hno x hx
    ·rw[List.mem_singleton.1 hx];exact hb
  ·have:k=V.length:=by omega
   subst this
   clear hK
   have X:=And.intro X (Int.lt_irrefl (V.length:Int))
   (refine run ?_;with_reducible repeat' first|exact trivial|(apply ad.mk<;>intro hb)|apply av.mk)
   have hfi:V.findIdx? p=none:=by rw[List.findIdx?_eq_none_iff];rw[List.take_length] at hno;exact hno
   refine Fin.out hR ⟨rfl,?_⟩
   simp only[bq,hfi]
 have h2:=qX p V
 generalize hI:(match V.findIdx? p with|some i=>(i:Int)|none=> -1)=I at hidx
 refine af.aD TB [] aA _ Tryz.func46 rfl (by decide) Tryz.ntmps46 (by simp) rfl (by simp only[ap,Nat.reduceAdd];rfl) fun C R' hR hC hcl hB=>?_;have X:=aF;have hC':=congrArg List.length hC
 (refine run ?_;with_reducible repeat' first|exact trivial|(apply ad.mk<;>intro hb)|apply av.mk)
 refine bt hidx ?_
 rintro r H' ⟨rfl,rfl⟩
 (refine run ?_;with_reducible repeat' first|exact trivial|(apply ad.mk<;>intro hb)|apply av.mk)
 refine Fin.out hR ⟨rfl,?_⟩
 rw[← h2,← hI]
 simp only[bq]
 cases V.findIdx? p with
 |none=>rfl
 |some i=>rfl
theorem v7 (G:Gl) (hG:au G) (f:SV) (p:Al→Bool) (V:List Al) (H:List ax) (hl:V.length<1125899906842624) (hfu:f.under H.length=true)
 (hf:∀ x∈V,bz Tryz.prog G f [x.sv] H (fun r H'=>H'=H∧r= .bool (p x))):
 af Tryz.prog G 109 [.list 12 (aw V),f] H (fun r H'=>H'=H∧r= .bool (V.any p)):=by
 have hidx:af Tryz.prog G 141 [.list 12 (aw V),f] H (fun r H'=>H'=H∧r= .int .i64 (match V.findIdx? p with|some i=>(i:Int)|none=> -1)):=by
  have hlm:(aw V).length=V.length:=by rw[bG,List.length_map]
  refine af.aD TB [] aA _ Tryz.func141 rfl (by decide) Tryz.ntmps141 (by simp) rfl (by simp only[ap,Nat.reduceAdd];rfl) fun C R' hR hC hcl hB=>?_;have X:=aF;have hC':=congrArg List.length hC
  have X:=And.intro X hlm
  have hcl1:=hcl
  (refine run ?_;with_reducible repeat' first|exact trivial|(apply ad.mk<;>intro hb)|apply av.mk)
  refine az (fun k:Nat=>[(0,.list 12 (aw V)),(1,f),(7,.int .i64 V.length),(8,.int .i64 k)]) (fun _=>H) (fun k=>V.length - k) (fun k=>k≤V.length∧∀ x∈V.take k,p x=false) 0 ⟨Nat.zero_le _,by simp⟩ (Wk.sub (by simp[bg,look])) ?_
  rintro K k ⟨hk,hno⟩ hK
  rcases Nat.lt_or_ge k V.length with hlt|hge
  ·have e1:(aw V)[k]? =some (.agg V[k].cells):=by simp[bG,hlt,Al.sv]
   have hfk:=hf V[k] (List.getElem_mem hlt)
   have hsv:V[k].sv= .agg V[k].cells:=rfl
   rw[hsv] at hfk
   have X:=And.intro X e1
   (refine run ?_;with_reducible repeat' first|exact trivial|(apply ad.mk<;>intro hb)|apply av.mk)
   refine eX hfk ?_
   rintro r H' ⟨rfl,rfl⟩
   (refine run ?_;with_reducible repeat' first|exact trivial|(apply ad.mk<;>intro hb)|apply av.mk)
   ·have hfi:V.findIdx? p=some k:=by
     rw[List.findIdx?_eq_some_iff_getElem]
     refine⟨hlt,by simpa using hb,fun j hj=>?_⟩
     have:=hno (V[j]'(by omega)) (by rw[List.mem_take_iff_getElem];exact⟨j,by omega,rfl⟩)
     simp[this]
    refine Fin.out hR ⟨rfl,?_⟩
    simp only[bq,hfi]
   ·refine hK _ _ (k+1) (by omega) ⟨by omega,?_⟩ (Wk.sub (by simp[bg,look]))
    rw[List.take_succ_eq_append_getElem hlt]
    intro x hx
    rcases List.mem_append.1 hx with hx|hx
    ·exact hno x hx
    ·rw[List.mem_singleton.1 hx];exact hb
  ·have:k=V.length:=by omega
   subst this
   clear hK
   have X:=And.intro X (Int.lt_irrefl (V.length:Int))
   (refine run ?_;with_reducible repeat' first|exact trivial|(apply ad.mk<;>intro hb)|apply av.mk)
   have hfi:V.findIdx? p=none:=by rw[List.findIdx?_eq_none_iff];rw[List.take_length] at hno;exact hno
   refine Fin.out hR ⟨rfl,?_⟩
   simp only[bq,hfi]
 have h2:=qX p V
 generalize hI:(match V.findIdx? p with|some i=>(i:Int)|none=> -1)=I at hidx
 refine af.aD TB [] aA _ Tryz.func109 rfl (by decide) Tryz.ntmps109 (by simp) rfl (by simp only[ap,Nat.reduceAdd];rfl) fun C R' hR hC hcl hB=>?_;have X:=aF;have hC':=congrArg List.length hC
 (refine run ?_;with_reducible repeat' first|exact trivial|(apply ad.mk<;>intro hb)|apply av.mk)
 refine bt hidx ?_
 rintro r H' ⟨rfl,rfl⟩
 (refine run ?_;with_reducible repeat' first|exact trivial|(apply ad.mk<;>intro hb)|apply av.mk)
 refine Fin.out hR ⟨rfl,?_⟩
 rw[← h2,← hI]
 simp only[bq]
 cases V.findIdx? p with
 |none=>rfl
 |some i=>rfl
theorem Cv (G:Gl) (hG:au G) (f:SV) (p:Ex→Bool) (V:List Ex) (H:List ax) (hl:V.length<1125899906842624) (hfu:f.under H.length=true)
 (hf:∀ x∈V,bz Tryz.prog G f [x.sv] H (fun r H'=>H'=H∧r= .bool (p x))):
 af Tryz.prog G 143 [.list 8 (ag V),f] H (fun r H'=>H'=H∧r= .bool (V.any p)):=by
 have hidx:af Tryz.prog G 161 [.list 8 (ag V),f] H (fun r H'=>H'=H∧r= .int .i64 (match V.findIdx? p with|some i=>(i:Int)|none=> -1)):=by
  have hlm:(ag V).length=V.length:=by rw[bh,List.length_map]
  refine af.aD TB [] aA _ Tryz.func161 rfl (by decide) Tryz.ntmps161 (by simp) rfl (by simp only[ap,Nat.reduceAdd];rfl) fun C R' hR hC hcl hB=>?_;have X:=aF;have hC':=congrArg List.length hC
  have X:=And.intro X hlm
  have hcl1:=hcl
  (refine run ?_;with_reducible repeat' first|exact trivial|(apply ad.mk<;>intro hb)|apply av.mk)
  refine az (fun k:Nat=>[(0,.list 8 (ag V)),(1,f),(7,.int .i64 V.length),(8,.int .i64 k)]) (fun _=>H) (fun k=>V.length - k) (fun k=>k≤V.length∧∀ x∈V.take k,p x=false) 0 ⟨Nat.zero_le _,by simp⟩ (Wk.sub (by simp[bg,look])) ?_
  rintro K k ⟨hk,hno⟩ hK
  rcases Nat.lt_or_ge k V.length with hlt|hge
  ·have e1:(ag V)[k]? =some (.agg V[k].cells):=by simp[bh,hlt,Ex.sv]
   have hfk:=hf V[k] (List.getElem_mem hlt)
   have hsv:V[k].sv= .agg V[k].cells:=rfl
   rw[hsv] at hfk
   have X:=And.intro X e1
   (refine run ?_;with_reducible repeat' first|exact trivial|(apply ad.mk<;>intro hb)|apply av.mk)
   refine eX hfk ?_
   rintro r H' ⟨rfl,rfl⟩
   (refine run ?_;with_reducible repeat' first|exact trivial|(apply ad.mk<;>intro hb)|apply av.mk)
   ·have hfi:V.findIdx? p=some k:=by
     rw[List.findIdx?_eq_some_iff_getElem]
     refine⟨hlt,by simpa using hb,fun j hj=>?_⟩
     have:=hno (V[j]'(by omega)) (by rw[List.mem_take_iff_getElem];exact⟨j,by omega,rfl⟩)
     simp[this]
    refine Fin.out hR ⟨rfl,?_⟩
    simp only[bq,hfi]
   ·refine hK _ _ (k+1) (by omega) ⟨by omega,?_⟩ (Wk.sub (by simp[bg,look]))
    rw[List.take_succ_eq_append_getElem hlt]
    intro x hx
    rcases List.mem_append.1 hx with hx|hx
    ·exact hno x hx
    ·rw[List.mem_singleton.1 hx];exact hb
  ·have:k=V.length:=by omega
   subst this
   clear hK
   have X:=And.intro X (Int.lt_irrefl (V.length:Int))
   (refine run ?_;with_reducible repeat' first|exact trivial|(apply ad.mk<;>intro hb)|apply av.mk)
   have hfi:V.findIdx? p=none:=by rw[List.findIdx?_eq_none_iff];rw[List.take_length] at hno;exact hno
   refine Fin.out hR ⟨rfl,?_⟩
   simp only[bq,hfi]
 have h2:=qX p V
 generalize hI:(match V.findIdx? p with|some i=>(i:Int)|none=> -1)=I at hidx
 refine af.aD TB [] aA _ Tryz.func143 rfl (by decide) Tryz.ntmps143 (by simp) rfl (by simp only[ap,Nat.reduceAdd];rfl) fun C R' hR hC hcl hB=>?_;have X:=aF;have hC':=congrArg List.length hC
 (refine run ?_;with_reducible repeat' first|exact trivial|(apply ad.mk<;>intro hb)|apply av.mk)
 refine bt hidx ?_
 rintro r H' ⟨rfl,rfl⟩
 (refine run ?_;with_reducible repeat' first|exact trivial|(apply ad.mk<;>intro hb)|apply av.mk)
 refine Fin.out hR ⟨rfl,?_⟩
 rw[← h2,← hI]
 simp only[bq]
 cases V.findIdx? p with
 |none=>rfl
 |some i=>rfl
end Go.Proofs.YtehfihnfeakmaaaGreatDoor
