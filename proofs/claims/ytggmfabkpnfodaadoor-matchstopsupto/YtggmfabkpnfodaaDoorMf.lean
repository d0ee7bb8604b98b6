/- A part of the proof: A6, A7, A8, A9, A10, A11, M0, A12, A13, A14, A15, B1, B2, B3, D1, B4, B5, Y9, B6, A16. Names and spaces are cut short by program. -/
import Derived.Test.YtggmfabkpnfodaaDoorMe
set_option linter.unusedSimpArgs false
set_option linter.unusedVariables false
set_option maxRecDepth 10000
set_option maxHeartbeats 4000000
namespace Go.Proofs.YtggmfabkpnfodaaDoor
open Go
theorem Nd.msr_lens (p:Nd):p.name.length≤p.msr∧p.subs.length≤p.msr:=by
 rw[p.msr_eq]
 have:∀ l:List Nd,l.length≤ndsMsr l:=by
  intro l
  induction l with
  |nil=>exact Nat.le_refl _
  |cons x r ih=>simp only[List.length_cons,ndsMsr];omega
 have:=this p.subs
 omega
def RgC (G:Gl) (t:Tb) (f:Nat):Prop:=∀ (tb ca la:Nat) (p:Nd) (H:List Blk),p.msr<f→f<2147483648→TbAt H t tb ca la→
 ACall Tryd.prog G 17 [.ptr tb 0 0 0,.agg p.cells] H (fun r H'=>H'=H∧r= .tuple [.bool (rgtF t f p).1,.bool (rgtF t f p).2])
theorem right_case (G:Gl) (hG:GClosed G) (t:Tb) (f:Nat) (ih:RgC G t f) (tb ca la:Nat) (p:Nd) (H:List Blk) (hm:p.msr<f+1) (hf:f+1<2147483648) (hT:TbAt H t tb ca la)
 (h43:¬ p.kind=43) (h42:¬ p.kind=42) (h44:¬ p.kind=44) (h50:¬ p.kind=50):
 ACall Tryd.prog G 17 [.ptr tb 0 0 0,.agg p.cells] H (fun r H'=>H'=H∧r= .tuple [.bool (rgtF t (f+1) p).1,.bool (rgtF t (f+1) p).2]):=by
 have hlen:=p.msr_lens
 have hs:=shpM_ok G hG t tb ca la p (by omega) (by omega) _ (hT.app [.cells 0 6 [.agg p.cells]])
 have hr:rgtF t (f+1) p=match shpF t p with
  |some s=>rgtL (rgtF t f) (sure0 s.con.family p.kind) s.parts
  |none=>(false,false):=by (rw[rgtF,if_neg h43,if_neg h42,if_neg h44,if_neg h50])<;>rfl
 rw[hr]
 have hmem:∀ s,shpF t p=some s→∀ q∈s.parts,q.pat.msr<f∧True:=fun s h q hq=>⟨by have:=shpF_part h hq;omega,trivial⟩
 have hplen:∀ s,shpF t p=some s→s.parts.length≤p.msr:=fun s h=>by
  have h1:=shpF_msr h
  have:∀ l:List Pt,l.length≤ptsMsr l:=by
   intro l
   induction l with
   |nil=>exact Nat.le_refl _
   |cons x r ih=>simp only[ptsMsr,List.map_cons,List.sum_cons,List.length_cons] at ih ⊢;omega
  have:=this s.parts
  omega
 obtain⟨k,nm,n,a,b,l⟩:=p
 simp only[Nd.kind,Nd.cells] at h43 h42 h44 h50 hs ⊢
 have u1:SV.underL H.length (ndCells l)=true:=ndCells_under _ _
 have htb:tb<H.length:=(List.getElem?_eq_some_iff.1 hT.h).1
 generalize shpF t (Nd.mk k nm n a b l)=o at*
 refine ACall.of_go TB [] tabOK _ Tryd.func17 rfl (by decide) Tryd.ntmps17 (by simp) rfl (by simp only[initEnv,Nat.reduceAdd];rfl) fun C R' hR hC hcl hB=>?_;have X:=noX;have hC':=congrArg List.length hC
 have X:=And.intro X (And.intro h43 (And.intro h42 (And.intro h44 h50)))
 (refine run ?_;with_reducible repeat' first|exact trivial|(apply Fork.mk<;>intro hb)|apply Two.mk)
 refine callS hs ?_
 rintro r H' ⟨rfl,c,p,bb,hp,rfl,ho⟩
 have hu:=hp.under H.length
 cases o with
 |none=>
  simp only at ho
  subst ho
  (refine run ?_;with_reducible repeat' first|exact trivial|(apply Fork.mk<;>intro hb)|apply Two.mk)
  exact finS (n0:=H.length) hR hC' hcl (.same _ rfl) ⟨rfl,rfl⟩
 |some s=>
  obtain⟨rfl,rfl,rfl⟩:=ho
  have q1:=ptCells_len s.parts
  have hpl:=hplen s rfl
  have hmm:=hmem s rfl
  have u2:SV.underL H.length (ptCells s.parts)=true:=ptCells_under _ _
  have X:=And.intro noX q1
  (refine run ?_;with_reducible repeat' first|exact trivial|(apply Fork.mk<;>intro hb)|apply Two.mk)
  have hcb:∀ q∈s.parts,∀ H2,TbAt H2 t tb ca la→ACall Tryd.prog G 17 [.ptr tb 0 0 0,.agg q.pat.cells] H2 (fun r H'=>H'=H2∧r= .tuple [.bool (rgtF t f q.pat).1,.bool (rgtF t f q.pat).2]):=fun q hq H2 h2=>ih tb ca la q.pat H2 (hmm q hq).1 (by omega) h2
  have hdec:(decide (s.con.family=1)&&decide ¬k=49&&decide ¬k=45)=sure0 s.con.family k:=by simp[sure0]
  rw[hdec]
  simp only[Nd.kind] at hR
  refine go_loop (fun z:Nat×Bool=>[(0,.ptr tb 0 0 0),(5,.bool z.2),(84,.list 7 (ptCells s.parts)),(85,.int .i64 s.parts.length),(86,.int .i64 z.1)]) (fun _=>H) (fun z=>s.parts.length - z.1) (fun z=>z.1≤s.parts.length∧rgtL (rgtF t f) (sure0 s.con.family k) s.parts=rgtL (rgtF t f) z.2 (s.parts.drop z.1)) (0,sure0 s.con.family k) ⟨Nat.zero_le _,rfl⟩ ?_ ?_
  ·rw[← List.append_nil H,List.append_assoc,List.nil_append];exact wkS (n0:=H.length) [] hG hB hC' hcl
  rintro K ⟨i,su⟩ ⟨hi,hrl⟩ hK
  simp only at hi hrl
  rcases Nat.lt_or_ge i s.parts.length with hlt|hge
  ·have e1:(ptCells s.parts)[i]? =some (.agg (.int .i64 s.parts[i].place::s.parts[i].pat.cells)):=by rw[ptCells_get2,List.getElem?_eq_getElem hlt];rfl
   have e2:=s.parts[i].pat.cells_len
   have e3:=s.parts[i].pat.cells_take
   have hc:=hcb s.parts[i] (List.getElem_mem hlt)
   rw[List.drop_eq_getElem_cons hlt,rgtL] at hrl
   generalize s.parts[i]=q at*
   obtain⟨pl,q⟩:=q
   simp only at e1 e2 e3 hc hrl
   generalize rgtF t f q=F at*
   obtain⟨F1,F2⟩:=F
   simp only at hc hrl
   have X:=And.intro noX (And.intro q1 (And.intro e1 (And.intro e2 e3)))
   (refine run ?_;with_reducible repeat' first|exact trivial|(apply Fork.mk<;>intro hb)|apply Two.mk)
   refine callS (hc _ (hT.app _)) ?_
   rintro r H' ⟨rfl,rfl⟩
   cases F1 with
   |false=>
    (refine run ?_;with_reducible repeat' first|exact trivial|(apply Fork.mk<;>intro hb)|apply Two.mk)
    exact finS (n0:=H.length) hR hC' hcl (.same _ rfl) ⟨rfl,by rw[hrl];rfl⟩
   |true=>
    rw[if_pos rfl] at hrl
    (refine run ?_;with_reducible repeat' first|exact trivial|(apply Fork.mk<;>intro hb)|apply Two.mk)
    refine hK _ _ (i+1,su&&F2) (show s.parts.length - (i+1)<s.parts.length - i by omega) ⟨show i+1≤s.parts.length by omega,hrl⟩ ?_
    rw[← List.append_nil H,List.append_assoc,List.nil_append];exact wkS (n0:=H.length) [] hG hB hC' hcl
  obtain rfl:i=s.parts.length:=by omega
  rw[List.drop_length,rgtL] at hrl
  clear hK
  have X:=And.intro noX (Int.lt_irrefl (s.parts.length:Int))
  (refine run ?_;with_reducible repeat' first|exact trivial|(apply Fork.mk<;>intro hb)|apply Two.mk)
  exact Fin.out hR ⟨rfl,by rw[hrl];rfl⟩
theorem right_ok2 (G:Gl) (hG:GClosed G) (t:Tb):∀ f:Nat,RgC G t f
 |0=>fun _ _ _ _ _ h=>absurd h (by omega)
 |f+1=>fun tb ca la p H hm hf hT=>by
  have ih:=right_ok2 G hG t f
  by_cases h43:p.kind=43
  ·rw[show rgtF t (f+1) p=(z0 p.subs.length,z0 p.subs.length) by rw[rgtF,if_pos h43]]
   obtain⟨k,nm,n,a,b,l⟩:=p
   obtain rfl:k=43:=h43
   have hl:=(Nd.mk 43 nm n a b l).msr_lens
   simp only[Nd.subs,Nd.cells,Nd.name] at hl ⊢
   have u1:SV.underL H.length (ndCells l)=true:=ndCells_under _ _
   have q1:=ndCells_len l
   refine ACall.of_go TB [] tabOK _ Tryd.func17 rfl (by decide) Tryd.ntmps17 (by simp) rfl (by simp only[initEnv,Nat.reduceAdd];rfl) fun C R' hR hC hcl hB=>?_;have X:=noX;have hC':=congrArg List.length hC
   have X:=And.intro X q1
   (refine run ?_;with_reducible repeat' first|exact trivial|(apply Fork.mk<;>intro hb)|apply Two.mk)
   exact finS (n0:=H.length) hR hC' hcl (.same _ rfl) ⟨rfl,by simp[resSV,z0,isE]⟩
  by_cases h42:p.kind=42
  ·rw[show rgtF t (f+1) p=(z0 p.subs.length&&!isE p.name,z0 p.subs.length&&!isE p.name) by rw[rgtF,if_neg h43,if_pos h42]]
   obtain⟨k,nm,n,a,b,l⟩:=p
   obtain rfl:k=42:=h42
   have hl:=(Nd.mk 42 nm n a b l).msr_lens
   simp only[Nd.subs,Nd.cells,Nd.name] at hl ⊢
   have u1:SV.underL H.length (ndCells l)=true:=ndCells_under _ _
   have q1:=ndCells_len l
   refine ACall.of_go TB [] tabOK _ Tryd.func17 rfl (by decide) Tryd.ntmps17 (by simp) rfl (by simp only[initEnv,Nat.reduceAdd];rfl) fun C R' hR hC hcl hB=>?_;have X:=noX;have hC':=congrArg List.length hC
   have X:=And.intro X q1
   (refine run ?_;with_reducible repeat' first|exact trivial|(apply Fork.mk<;>intro hb)|apply Two.mk)
   exact finS (n0:=H.length) hR hC' hcl (.same _ rfl) ⟨rfl,by simp[resSV,z0,isE]⟩
  by_cases h44:p.kind=44
  ·rw[show rgtF t (f+1) p=(z0 p.subs.length,false) by rw[rgtF,if_neg h43,if_neg h42,if_pos h44]]
   obtain⟨k,nm,n,a,b,l⟩:=p
   obtain rfl:k=44:=h44
   have hl:=(Nd.mk 44 nm n a b l).msr_lens
   simp only[Nd.subs,Nd.cells,Nd.name] at hl ⊢
   have u1:SV.underL H.length (ndCells l)=true:=ndCells_under _ _
   have q1:=ndCells_len l
   refine ACall.of_go TB [] tabOK _ Tryd.func17 rfl (by decide) Tryd.ntmps17 (by simp) rfl (by simp only[initEnv,Nat.reduceAdd];rfl) fun C R' hR hC hcl hB=>?_;have X:=noX;have hC':=congrArg List.length hC
   have X:=And.intro X q1
   (refine run ?_;with_reducible repeat' first|exact trivial|(apply Fork.mk<;>intro hb)|apply Two.mk)
   exact finS (n0:=H.length) hR hC' hcl (.same _ rfl) ⟨rfl,by simp[resSV,z0,isE]⟩
  by_cases h50:p.kind=50
  ·by_cases hgood:p.subs.length=1∧p.name≠[]
   ·obtain⟨hg1,hg2⟩:=hgood
    obtain⟨q,hq⟩:=List.length_eq_one_iff.1 hg1
    have hr:rgtF t (f+1) p=rgtF t f q:=by
     rw[rgtF,if_neg h43,if_neg h42,if_neg h44,if_pos h50,hq]
     simp only
     rw[if_neg hg2]
    rw[hr]
    obtain⟨k,nm,n,a,b,l⟩:=p
    obtain rfl:k=50:=h50
    obtain rfl:l=[q]:=hq
    simp only[Nd.name] at hg2
    have hc:=ih tb ca la q
    have hmq:q.msr<f:=by simp only[Nd.msr,ndsMsr] at hm;omega
    have e2:=q.cells_len
    have e3:=q.cells_take
    simp only[Nd.cells,ndCells]
    have u1:SV.underL H.length q.cells=true:=q.cells_under _
    refine ACall.of_go TB [] tabOK _ Tryd.func17 rfl (by decide) Tryd.ntmps17 (by simp) rfl (by simp only[initEnv,Nat.reduceAdd];rfl) fun C R' hR hC hcl hB=>?_;have X:=noX;have hC':=congrArg List.length hC
    have X:=And.intro X (And.intro hg2 (And.intro e2 e3))
    (refine run ?_;with_reducible repeat' first|exact trivial|(apply Fork.mk<;>intro hb)|apply Two.mk)
    refine callS (hc _ hmq (by omega) (hT.app _)) ?_
    rintro r H' ⟨rfl,rfl⟩
    (refine run ?_;with_reducible repeat' first|exact trivial|(apply Fork.mk<;>intro hb)|apply Two.mk)
    exact finS (n0:=H.length) hR hC' hcl (.same _ rfl) ⟨rfl,rfl⟩
   ·have hr:rgtF t (f+1) p=(false,false):=by
     rw[rgtF,if_neg h43,if_neg h42,if_neg h44,if_pos h50]
     split
     ·rename_i q hq
      rw[if_pos]
      refine Classical.byContradiction fun hn=>hgood ⟨by rw[hq];rfl,hn⟩
     ·rfl
    rw[hr]
    obtain⟨k,nm,n,a,b,l⟩:=p
    obtain rfl:k=50:=h50
    simp only[Nd.subs,Nd.cells,Nd.name] at hgood ⊢
    have hl:=(Nd.mk 50 nm n a b l).msr_lens
    simp only[Nd.subs,Nd.name] at hl
    have u1:SV.underL H.length (ndCells l)=true:=ndCells_under _ _
    have q1:=ndCells_len l
    refine ACall.of_go TB [] tabOK _ Tryd.func17 rfl (by decide) Tryd.ntmps17 (by simp) rfl (by simp only[initEnv,Nat.reduceAdd];rfl) fun C R' hR hC hcl hB=>?_;have X:=noX;have hC':=congrArg List.length hC
    have X:=And.intro X q1
    (refine run ?_;with_reducible repeat' first|exact trivial|(apply Fork.mk<;>intro hb)|apply Two.mk)
    ·exact finS (n0:=H.length) hR hC' hcl (.same _ rfl) ⟨rfl,rfl⟩
    ·exfalso
     simp at hb
     exact hgood ⟨by omega,hb.1⟩
  exact right_case G hG t f ih tb ca la p H hm hf hT h43 h42 h44 h50
theorem TbAt.self (t:Tb) (Q:List Blk):TbAt (Q++tbB t Q.length) t (Q.length+2) Q.length (Q.length+1):=
 ⟨by rw[get_app];rfl,by rw[get_app0];rfl,by rw[get_app];rfl⟩
theorem Sure_ok (G:Gl) (hG:GClosed G) (t:Tb) (p:Nd) (H:List Blk) (h1:t.cons.length<4294967296) (h2:t.labels.length<4294967296) (hp:p.msr<2147483647):
 ACall Tryd.prog G 6 [.agg [.list 4 (cnCells t.cons),.list 3 (lbCells t.labels)],.agg p.cells] H (fun r H'=>H'=H∧r= .bool (rgtF t (p.msr+1) p).2):=by
 have hc:=tabled_ok G hG t
 have hr:=right_ok2 G hG t (p.msr+1)
 have e2:=p.cells_len
 have e3:=p.cells_take
 have u1:SV.underL H.length p.cells=true:=p.cells_under _
 have q1:=cnCells_len t.cons
 have q2:=lbCells_len t.labels
 refine ACall.of_go TB [] tabOK _ Tryd.func6 rfl (by decide) Tryd.ntmps6 (by simp) rfl (by simp only[initEnv,Nat.reduceAdd];rfl) fun C R' hR hC hcl hB=>?_;have X:=noX;have hC':=congrArg List.length hC
 have X:=And.intro X (And.intro q1 (And.intro q2 (And.intro e2 e3)))
 (refine run ?_;with_reducible repeat' first|exact trivial|(apply Fork.mk<;>intro hb)|apply Two.mk)
 refine xcallS (hc _ h1 h2) ?_
 rintro r H' ⟨rfl,rfl⟩
 (refine run ?_;with_reducible repeat' first|exact trivial|(apply Fork.mk<;>intro hb)|apply Two.mk)
 refine xcallS (hr _ _ _ p _ (Nat.lt_succ_self _) (by omega) (TbAt.self t _)) ?_
 rintro r H' ⟨rfl,rfl⟩
 (refine run ?_;with_reducible repeat' first|exact trivial|(apply Fork.mk<;>intro hb)|apply Two.mk)
 rw[List.append_assoc]
 exact finS (n0:=H.length) hR hC' hcl (.same _ rfl) ⟨rfl,rfl⟩
def nmN (n:Int):Str:=109::35::Lib.itoa n
def varE (s:Str):Ex:= .mk 1 s 0 0 [] [] [] []
def letE (s:Str) (e b:Ex):Ex:= .mk 5 [] 0 0 [] [b] [.mk s e] []
def ofE (col name:Str) (alts:List Al):Ex:= .mk 6 name 0 0 [] [varE col] [] alts
def otherA (way:Ex):Al:= .mk 3 [] 0 [] way
def litA (n:Int) (b:Ex):Al:= .mk 2 [] n [] b
def conA (name:Str) (l:List Str) (b:Ex):Al:= .mk 1 name 0 l b
def emptyE:Ex:= .mk 0 [] 0 0 [] [] [] []
def raiseE:Ex:= .mk 8 [] 0 11 [] [] [] []
def appE (f:Str):Ex:= .mk 4 [] 0 0 [] [varE f,.mk 7 unitN 0 0 [] [] [] []] [] []
def lamE (d:Str) (b:Ex):Ex:= .mk 3 [] 0 0 [d] [b] [] []
def fldN:Nat→Int→List Str
 |0,_=>[]
 |k+1,n=>nmN n::fldN k (n+1)
@[simp] theorem fldN_len:∀ (k:Nat) (n:Int),(fldN k n).length=k
 |0,_=>rfl
 |k+1,n=>by simp[fldN,fldN_len k]
theorem fldN_snoc:∀ (k:Nat) (n:Int),fldN (k+1) n=fldN k n++[nmN (n+k)]
 |0,n=>by simp[fldN]
 |k+1,n=>by
  rw[fldN,fldN_snoc k (n+1)]
  simp only[fldN,List.cons_append]
  congr 4
  omega
abbrev Rst:=Int→Ex×Int
def frmF (mt:Nd→Str→Rst→Rst) (fields:List Str) (rest:Rst):List Pt→Rst
 |[]=>rest
 |q::r=>mt q.pat (fields.getD q.place.toNat []) (frmF mt fields rest r)
def matF (t:Tb) (way:Ex):Nat→Nd→Str→Rst→Rst
 |0,_,_,rest=>rest
 |f+1,p,col,rest=>
  if p.kind=43 then rest
  else if p.kind=42 then fun n=>(letE p.name (varE col) (rest n).1,(rest n).2)
  else if p.kind=50 then (match p.subs with
   |[q]=>fun n=>(letE p.name (varE col) (matF t way f q col rest n).1,(matF t way f q col rest n).2)
   |_=>rest)
  else if p.kind=44 then fun n=>(ofE col (nmN n) [litA p.n (rest (n+1)).1,otherA way],(rest (n+1)).2)
  else match shpF t p with
   |some s=>fun n=>
    let r:=frmF (matF t way f) (fldN s.con.arity.toNat (n+1)) rest s.parts (n+1+s.con.arity.toNat)
    (ofE col (nmN n) (conA s.con.name (fldN s.con.arity.toNat (n+1)) r.1::if s.con.family=1 then [] else [otherA way]),r.2)
   |none=>rest
def rowF (t:Tb) (way:Ex):List Nd→List Str→Ex→Rst
 |p::ps,c::cs,body=>matF t way (p.msr+1) p c (rowF t way ps cs body)
 |_,_,body=>fun n=>(body,n)
def openR (t:Tb) (r:Rw):Bool:=decide (nextN∈freeS r.body)||r.pats.any fun p=>!(rgtF t (p.msr+1) p).2
def repS (s:Str) (by_ e:Ex):Ex:=repF s by_ e.wt e
def rowsF (t:Tb) (cols:List Str):List Rw→Rst
 |[]=>fun n=>(raiseE,n)
 |r::rs=>fun n=>
  if openR t r then
   let o:=rowsF t cols rs (n+2)
   let h:=rowF t (appE (nmN n)) r.pats cols (repS nextN (appE (nmN n)) r.body) o.2
   (letE (nmN n) (lamE (nmN (n+1)) o.1) h.1,h.2)
  else rowF t emptyE r.pats cols r.body n
def mkC (tb:Nat) (n:Int):Blk:= .cells 0 2 [.agg [.ptr tb 0 0 0,.int .i64 n]]
structure MkAt (H:List Blk) (t:Tb) (mb tb ca la:Nat):Prop where
 T:TbAt H t tb ca la
 m:mb<H.length
 n1:mb≠tb
 n2:mb≠ca
 n3:mb≠la
theorem MkAt.app {H:List Blk} {t:Tb} {mb tb ca la:Nat} (h:MkAt H t mb tb ca la) (L:List Blk):MkAt (H++L) t mb tb ca la:=
 ⟨h.T.app L,by rw[List.length_append];have:=h.m;omega,h.n1,h.n2,h.n3⟩
theorem MkAt.TT {H:List Blk} {t:Tb} {mb tb ca la:Nat} (h:MkAt H t mb tb ca la) (y:Blk) (L:List Blk):TbAt (H.set mb y++L) t tb ca la:=
 ⟨get_app_left (get_set_ne h.T.h h.n1),get_app_left (get_set_ne h.T.c h.n2),get_app_left (get_set_ne h.T.l h.n3)⟩
theorem MkAt.X {H:List Blk} {t:Tb} {mb tb ca la:Nat} (h:MkAt H t mb tb ca la):(∀ y L,(H.set mb y++L)[mb]? =some y)∧(∀ y,(H.set mb y).length=H.length)∧(∀ y z L,(H.set mb y++L).set mb z=H.set mb z++L):=
 ⟨fun y L=>get_app_left (List.getElem?_set_self h.m),fun y=>List.length_set ..,fun y z L=>by rw[List.set_append_left _ _ (by rw[List.length_set];exact h.m),List.set_set]⟩
theorem MkAt.base {H:List Blk} {t:Tb} {mb tb ca la:Nat} (h:MkAt H t mb tb ca la) (y:Blk) (L K:List Blk):(H++L).set mb y++K=H.set mb y++(L++K):=by
 rw[List.set_append_left _ _ h.m,List.append_assoc]
theorem fresh_ok (G:Gl) (hG:GClosed G) (C0:Cx) (hb0:G.base=some C0) (hL:LibAt C0) (tb mb:Nat) (n:Int) (h0:0≤n) (h1:n<4611686018427387904) (H:List Blk) (hH:H[mb]? =some (mkC tb n)):
 ACall Tryd.prog G 46 [.ptr mb 0 0 0] H (fun r H'=>H'=H.set mb (mkC tb (n+1))∧r= .str (nmN n)):=by
 have hi:=fun H2=>itoa_ok G C0 hb0 hL n (by omega) (by omega) H2
 have hil:=itoa_len n (by omega) (by omega)
 unfold nmN
 simp only[mkC] at hH ⊢
 have hlt:=(List.getElem?_eq_some_iff.1 hH).1
 generalize Lib.itoa n=ds at*
 refine ACall.of_go TB [] tabOK _ Tryd.func46 rfl (by decide) Tryd.ntmps46 (by simp) rfl (by simp only[initEnv,Nat.reduceAdd];rfl) fun C R' hR hC hcl hB=>?_;have X:=noX;have hC':=congrArg List.length hC
 have X:=And.intro X (And.intro hH (And.intro (show([109,35]:List UInt8).length+ds.length≤maxLen by simp[maxLen];omega) hlt))
 (refine run ?_;with_reducible repeat' first|exact trivial|(apply Fork.mk<;>intro hb)|apply Two.mk)
 refine callS (hi _) ?_
 rintro r H' ⟨rfl,rfl⟩
 (refine run ?_;with_reducible repeat' first|exact trivial|(apply Fork.mk<;>intro hb)|apply Two.mk)
 exact Fin.out hR ⟨rfl,rfl⟩
theorem named_ok (G:Gl) (hG:GClosed G) (s:Str) (H:List Blk):ACall Tryd.prog G 47 [.str s] H (fun r H'=>H'=H∧r= .agg (varE s).cells):=by
 refine ACall.of_go TB [] tabOK _ Tryd.func47 rfl (by decide) Tryd.ntmps47 (by simp) rfl (by simp only[initEnv,Nat.reduceAdd];rfl) fun C R' hR hC hcl hB=>?_;have X:=noX;have hC':=congrArg List.length hC
 (refine run ?_;with_reducible repeat' first|exact trivial|(apply Fork.mk<;>intro hb)|apply Two.mk)
 exact finS (n0:=H.length) hR hC' hcl (.same _ rfl) ⟨rfl,rfl⟩
theorem let_ok (G:Gl) (hG:GClosed G) (s:Str) (e b:Ex) (H:List Blk):ACall Tryd.prog G 49 [.str s,.agg e.cells,.agg b.cells] H (fun r H'=>H'=H∧r= .agg (letE s e b).cells):=by
 have e1:=e.cells_len
 have e2:=b.cells_len
 have e3:=e.cells_take
 have e4:=b.cells_take
 have u1:SV.underL H.length e.cells=true:=e.cells_under _
 have u2:SV.underL H.length b.cells=true:=b.cells_under _
 refine ACall.of_go TB [] tabOK _ Tryd.func49 rfl (by decide) Tryd.ntmps49 (by simp) rfl (by simp only[initEnv,Nat.reduceAdd];rfl) fun C R' hR hC hcl hB=>?_;have X:=noX;have hC':=congrArg List.length hC
 have X:=And.intro X (And.intro e1 (And.intro e2 (And.intro e3 e4)))
 (refine run ?_;with_reducible repeat' first|exact trivial|(apply Fork.mk<;>intro hb)|apply Two.mk)
 simp only[List.append_nil]
 exact finS (n0:=H.length) hR hC' hcl (.same _ (by simp[resSV,SV.under,SV.underL,u1,u2])) ⟨rfl,rfl⟩
theorem of_ok (G:Gl) (hG:GClosed G) (c s:Str) (l:List Al) (H:List Blk):ACall Tryd.prog G 76 [.str c,.str s,.list 12 (alCells l)] H (fun r H'=>H'=H∧r= .agg (ofE c s l).cells):=by
 have c1:=fun H2=>named_ok G hG c H2
 have u1:SV.underL H.length (alCells l)=true:=alCells_under _ _
 have u2:SV.underL H.length (varE c).cells=true:=(varE c).cells_under _
 refine ACall.of_go TB [] tabOK _ Tryd.func76 rfl (by decide) Tryd.ntmps76 (by simp) rfl (by simp only[initEnv,Nat.reduceAdd];rfl) fun C R' hR hC hcl hB=>?_;have X:=noX;have hC':=congrArg List.length hC
 (refine run ?_;with_reducible repeat' first|exact trivial|(apply Fork.mk<;>intro hb)|apply Two.mk)
 exact finS (n0:=H.length) hR hC' hcl (.same _ (by simp[resSV,SV.under,SV.underL,u1,u2])) ⟨rfl,rfl⟩
def RestC (G:Gl) (tb mb:Nat) (H:List Blk) (fn:SV) (rest:Rst) (lim:Int):Prop:=∀ (n:Int) (L:List Blk),0≤n→n≤lim→
 ACallV Tryd.prog G fn [] (H.set mb (mkC tb n)++L) (fun r H'=>H'=H.set mb (mkC tb (rest n).2)++L∧r= .agg (rest n).1.cells)
theorem RestC.app {G:Gl} {tb mb:Nat} {H:List Blk} {fn:SV} {rest:Rst} {lim:Int} (h:RestC G tb mb H fn rest lim) (hm:mb<H.length) (K:List Blk):RestC G tb mb (H++K) fn rest lim:=fun n L h0 h1=>by
 have:=h n (K++L) h0 h1
 simp only[List.set_append_left _ _ hm,List.append_assoc]
 exact this
theorem closed_mk {H:List Blk} {t:Tb} {mb tb ca la:Nat} (hM:MkAt H t mb tb ca la) {y:Blk} (h:closed (H.set mb y)) (n:Int):closed (H.set mb (mkC tb n)):=by
 have htb:tb<H.length:=(List.getElem?_eq_some_iff.1 hM.T.h).1
 have:=closed.set h (id:=mb) (b:=mkC tb n) (by simp[mkC,Blk.under,SV.underL,SV.under,htb])
 rwa[List.set_set] at this
def MatC (G:Gl) (t:Tb) (mb tb ca la:Nat) (way:Ex) (f:Nat):Prop:=∀ (p:Nd) (col:Str) (rest:Rst) (fk:Nat) (caps:List SV) (H:List Blk) (lim n:Int),p.msr<f→f<2147483648→(rgtF t f p).1=true→MkAt H t mb tb ca la→RestC G tb mb H (.fn (.func fk) [] caps) rest lim→SV.underL H.length caps=true→
 lim≤1152921504606846976→0≤n→n+101*p.msr≤lim→
 ACall Tryd.prog G 58 [.ptr mb 0 0 0,.agg p.cells,.str col,.agg way.cells,.fn (.func fk) [] caps] (H.set mb (mkC tb n)) (fun r H'=>H'=H.set mb (mkC tb (matF t way f p col rest n).2)∧r= .agg (matF t way f p col rest n).1.cells)
theorem match_43 (G:Gl) (hG:GClosed G) (C0:Cx) (hb0:G.base=some C0) (hL:LibAt C0) (t:Tb) (mb tb ca la:Nat) (way:Ex) (f:Nat) (p:Nd) (col:Str) (rest:Rst) (fk:Nat) (caps:List SV) (H:List Blk) (lim n:Int) (hm:p.msr<f+1) (hf:f+1<2147483648) (hr:(rgtF t (f+1) p).1=true) (hM:MkAt H t mb tb ca la) (hrest:RestC G tb mb H (.fn (.func fk) [] caps) rest lim) (hfn:SV.underL H.length caps=true) (hlim:lim≤1152921504606846976) (h0:0≤n) (hn:n+101*p.msr≤lim) (h43:p.kind=43):
 ACall Tryd.prog G 58 [.ptr mb 0 0 0,.agg p.cells,.str col,.agg way.cells,.fn (.func fk) [] caps] (H.set mb (mkC tb n)) (fun r H'=>H'=H.set mb (mkC tb (rest n).2)∧r= .agg (rest n).1.cells):=by
 obtain⟨x1,x2,x3⟩:=hM.X
 have hmb:=hM.m
 have v1:=fun L=>hrest n L h0 (by omega)
 have hR1:=(rest n).1.cells_under H.length
 have hR2:=(rest n).1.cells_len
 have w1:=way.cells_len
 have w2:=way.cells_take
 have w3:=way.cells_under H.length
 generalize rest n=R1 at*
 obtain⟨e1,n1⟩:=R1
 obtain⟨k,nm,pn,a,b,l⟩:=p
 obtain rfl:k=43:=h43
 simp only at v1 hR1 hR2
 have u1:SV.underL H.length (ndCells l)=true:=ndCells_under _ _
 simp only[Nd.cells]
 refine ACall.of_go TB [] tabOK _ Tryd.func58 rfl (by decide) Tryd.ntmps58 (by simp) rfl (by simp only[initEnv,Nat.reduceAdd];rfl) fun C R' hR hC hcl hB=>?_;have X:=noX;have hC':=congrArg List.length hC
 have hcl2:=closed_mk hM hcl
 have hC2:C.H.length=H.length:=by rw[hC,x2]
 have X:=And.intro X (And.intro (fun l=>List.append_nil l:∀ l:List SV,l++[]=l) (And.intro x1 (And.intro x2 (And.intro x3 (And.intro w1 (And.intro w2 (And.intro hR2 hmb)))))))
 (refine run ?_;with_reducible repeat' first|exact trivial|(apply Fork.mk<;>intro hb)|apply Two.mk)
 exact finS (n0:=H.length) hR hC2 (hcl2 _) (.same _ (by simp[resSV,SV.under,hR1])) ⟨rfl,rfl⟩ (hn:=x2 _)
theorem match_42 (G:Gl) (hG:GClosed G) (C0:Cx) (hb0:G.base=some C0) (hL:LibAt C0) (t:Tb) (mb tb ca la:Nat) (way:Ex) (f:Nat) (p:Nd) (col:Str) (rest:Rst) (fk:Nat) (caps:List SV) (H:List Blk) (lim n:Int) (hm:p.msr<f+1) (hf:f+1<2147483648) (hr:(rgtF t (f+1) p).1=true) (hM:MkAt H t mb tb ca la) (hrest:RestC G tb mb H (.fn (.func fk) [] caps) rest lim) (hfn:SV.underL H.length caps=true) (hlim:lim≤1152921504606846976) (h0:0≤n) (hn:n+101*p.msr≤lim) (h42:p.kind=42):
 ACall Tryd.prog G 58 [.ptr mb 0 0 0,.agg p.cells,.str col,.agg way.cells,.fn (.func fk) [] caps] (H.set mb (mkC tb n)) (fun r H'=>H'=H.set mb (mkC tb (rest n).2)∧r= .agg (letE p.name (varE col) (rest n).1).cells):=by
 obtain⟨x1,x2,x3⟩:=hM.X
 have hmb:=hM.m
 have v1:=fun L=>hrest n L h0 (by omega)
 have c1:=fun H2=>named_ok G hG col H2
 have c2:=fun H2=>let_ok G hG p.name (varE col) (rest n).1 H2
 have hR1:=(letE p.name (varE col) (rest n).1).cells_under H.length
 have hR2:=(rest n).1.cells_len
 have hR3:=(letE p.name (varE col) (rest n).1).cells_len
 have w1:=way.cells_len
 have w2:=way.cells_take
 have w3:=way.cells_under H.length
 generalize letE p.name (varE col) (rest n).1=R2 at*
 generalize rest n=R1 at*
 obtain⟨e1,n1⟩:=R1
 generalize varE col=ve at*
 obtain⟨k,nm,pn,a,b,l⟩:=p
 obtain rfl:k=42:=h42
 simp only[Nd.name] at v1 hR1 hR2 c2
 have u1:SV.underL H.length (ndCells l)=true:=ndCells_under _ _
 simp only[Nd.cells]
 refine ACall.of_go TB [] tabOK _ Tryd.func58 rfl (by decide) Tryd.ntmps58 (by simp) rfl (by simp only[initEnv,Nat.reduceAdd];rfl) fun C R' hR hC hcl hB=>?_;have X:=noX;have hC':=congrArg List.length hC
 have hcl2:=closed_mk hM hcl
 have hC2:C.H.length=H.length:=by rw[hC,x2]
 have X:=And.intro X (And.intro (fun l=>List.append_nil l:∀ l:List SV,l++[]=l) (And.intro x1 (And.intro x2 (And.intro x3 (And.intro w1 (And.intro w2 (And.intro hR2 (And.intro hR3 hmb))))))))
 (refine run ?_;with_reducible repeat' first|exact trivial|(apply Fork.mk<;>intro hb)|apply Two.mk)
 exact finS (n0:=H.length) hR hC2 (hcl2 _) (.same _ (by simp[resSV,SV.under,hR1])) ⟨rfl,rfl⟩ (hn:=x2 _)
theorem match_44 (G:Gl) (hG:GClosed G) (C0:Cx) (hb0:G.base=some C0) (hL:LibAt C0) (t:Tb) (mb tb ca la:Nat) (way:Ex) (f:Nat) (p:Nd) (col:Str) (rest:Rst) (fk:Nat) (caps:List SV) (H:List Blk) (lim n:Int) (hm:p.msr<f+1) (hf:f+1<2147483648) (hr:(rgtF t (f+1) p).1=true) (hM:MkAt H t mb tb ca la) (hrest:RestC G tb mb H (.fn (.func fk) [] caps) rest lim) (hfn:SV.underL H.length caps=true) (hlim:lim≤1152921504606846976) (h0:0≤n) (hn:n+101*p.msr≤lim) (h44:p.kind=44):
 ACall Tryd.prog G 58 [.ptr mb 0 0 0,.agg p.cells,.str col,.agg way.cells,.fn (.func fk) [] caps] (H.set mb (mkC tb n)) (fun r H'=>H'=H.set mb (mkC tb (rest (n+1)).2)∧r= .agg (ofE col (nmN n) [litA p.n (rest (n+1)).1,otherA way]).cells):=by
 obtain⟨x1,x2,x3⟩:=hM.X
 have hmb:=hM.m
 have hpos:0<p.msr:=by rw[p.msr_eq];omega
 have v1:=fun L=>hrest (n+1) L (by omega) (by omega)
 have c1:∀ L,ACall Tryd.prog G 46 [.ptr mb 0 0 0] (H.set mb (mkC tb n)++L) (fun r H'=>H'=H.set mb (mkC tb (n+1))++L∧r= .str (nmN n)):=fun L=>by
  have:=fresh_ok G hG C0 hb0 hL tb mb n h0 (by omega) (H.set mb (mkC tb n)++L) (x1 _ _)
  rwa[x3] at this
 have c2:=fun H2=>of_ok G hG col (nmN n) [litA p.n (rest (n+1)).1,otherA way] H2
 have hR1:=(ofE col (nmN n) [litA p.n (rest (n+1)).1,otherA way]).cells_under H.length
 have hR2:=(rest (n+1)).1.cells_len
 have hR3:=(ofE col (nmN n) [litA p.n (rest (n+1)).1,otherA way]).cells_len
 have w1:=way.cells_len
 have w2:=way.cells_take
 have w3:=way.cells_under H.length
 generalize ofE col (nmN n) [litA p.n (rest (n+1)).1,otherA way]=R2 at*
 simp only[alCells,litA,otherA,Al.cells,List.map_nil] at c2
 generalize rest (n+1)=R1 at*
 obtain⟨e1,n1⟩:=R1
 generalize nmN n=nm1 at*
 obtain⟨k,nm,pn,a,b,l⟩:=p
 obtain rfl:k=44:=h44
 simp only[Nd.n] at v1 hR1 hR2 c2
 have u1:SV.underL H.length (ndCells l)=true:=ndCells_under _ _
 simp only[Nd.cells]
 refine ACall.of_go TB [] tabOK _ Tryd.func58 rfl (by decide) Tryd.ntmps58 (by simp) rfl (by simp only[initEnv,Nat.reduceAdd];rfl) fun C R' hR hC hcl hB=>?_;have X:=noX;have hC':=congrArg List.length hC
 have hcl2:=closed_mk hM hcl
 have hC2:C.H.length=H.length:=by rw[hC,x2]
 have X:=And.intro X (And.intro (fun l=>List.append_nil l:∀ l:List SV,l++[]=l) (And.intro x1 (And.intro x2 (And.intro x3 (And.intro w1 (And.intro w2 (And.intro hR2 (And.intro hR3 hmb))))))))
 (refine run ?_;with_reducible repeat' first|exact trivial|(apply Fork.mk<;>intro hb)|apply Two.mk)
 exact finS (n0:=H.length) hR hC2 (hcl2 _) (.same _ (by simp[resSV,SV.under,hR1])) ⟨rfl,rfl⟩ (hn:=x2 _)
theorem MatC.at_ {G:Gl} {t:Tb} {mb tb ca la:Nat} {way:Ex} {f:Nat} (ih:MatC G t mb tb ca la way f) {p:Nd} {col:Str} {rest:Rst} {fk:Nat} {caps:List SV} {H:List Blk} {lim n:Int} (hm:p.msr<f) (hf:f<2147483648) (hr:(rgtF t f p).1=true) (hM:MkAt H t mb tb ca la) (hrest:RestC G tb mb H (.fn (.func fk) [] caps) rest lim) (hfn:SV.underL H.length caps=true) (hlim:lim≤1152921504606846976) (h0:0≤n) (hn:n+101*p.msr≤lim) (L:List Blk):
 ACall Tryd.prog G 58 [.ptr mb 0 0 0,.agg p.cells,.str col,.agg way.cells,.fn (.func fk) [] caps] (H.set mb (mkC tb n)++L) (fun r H'=>H'=H.set mb (mkC tb (matF t way f p col rest n).2)++L∧r= .agg (matF t way f p col rest n).1.cells):=by
 have:=ih p col rest fk caps (H++L) lim n hm hf hr (hM.app L) (hrest.app hM.m L) ((SV.below_mono_both (by rw[List.length_append];omega)).2 _ hfn) hlim h0 hn
 simpa only[List.set_append_left _ _ hM.m] using this
theorem match_50 (G:Gl) (hG:GClosed G) (C0:Cx) (hb0:G.base=some C0) (hL:LibAt C0) (t:Tb) (mb tb ca la:Nat) (way:Ex) (f:Nat) (p:Nd) (col:Str) (rest:Rst) (fk:Nat) (caps:List SV) (H:List Blk) (lim n:Int) (ih:MatC G t mb tb ca la way f) (hm:p.msr<f+1) (hf:f+1<2147483648) (hr:(rgtF t (f+1) p).1=true) (hM:MkAt H t mb tb ca la) (hrest:RestC G tb mb H (.fn (.func fk) [] caps) rest lim) (hfn:SV.underL H.length caps=true) (hlim:lim≤1152921504606846976) (h0:0≤n) (hn:n+101*p.msr≤lim) (h50:p.kind=50) (q:Nd) (hq:p.subs=[q]) (hr2:(rgtF t f q).1=true):
 ACall Tryd.prog G 58 [.ptr mb 0 0 0,.agg p.cells,.str col,.agg way.cells,.fn (.func fk) [] caps] (H.set mb (mkC tb n)) (fun r H'=>H'=H.set mb (mkC tb (matF t way f q col rest n).2)∧r= .agg (letE p.name (varE col) (matF t way f q col rest n).1).cells):=by
 obtain⟨x1,x2,x3⟩:=hM.X
 have hmb:=hM.m
 have hqm:q.msr+3≤p.msr:=by rw[p.msr_eq,hq];simp only[ndsMsr];omega
 have c3:=fun L=>ih.at_ (p:=q) (col:=col) (by omega) (by omega) hr2 hM hrest hfn hlim h0 (show n+101*q.msr≤lim by omega) L
 have c1:=fun H2=>named_ok G hG col H2
 have c2:=fun H2=>let_ok G hG p.name (varE col) (matF t way f q col rest n).1 H2
 have hR1:=(letE p.name (varE col) (matF t way f q col rest n).1).cells_under H.length
 have hR3:=(letE p.name (varE col) (matF t way f q col rest n).1).cells_len
 have w1:=way.cells_len
 have w2:=way.cells_take
 have w3:=way.cells_under H.length
 have e1:=q.cells_len
 have e2:=q.cells_take
 generalize letE p.name (varE col) (matF t way f q col rest n).1=R2 at*
 generalize matF t way f q col rest n=R1 at*
 obtain⟨r1,n1⟩:=R1
 generalize varE col=ve at*
 obtain⟨k,nm,pn,a,b,l⟩:=p
 obtain rfl:k=50:=h50
 obtain rfl:l=[q]:=hq
 simp only[Nd.name] at hR1 c2 c3
 have u1:SV.underL H.length q.cells=true:=q.cells_under _
 simp only[Nd.cells,ndCells]
 refine ACall.of_go TB [] tabOK _ Tryd.func58 rfl (by decide) Tryd.ntmps58 (by simp) rfl (by simp only[initEnv,Nat.reduceAdd];rfl) fun C R' hR hC hcl hB=>?_;have X:=noX;have hC':=congrArg List.length hC
 have hcl2:=closed_mk hM hcl
 have hC2:C.H.length=H.length:=by rw[hC,x2]
 have X:=And.intro X (And.intro (fun l=>List.append_nil l:∀ l:List SV,l++[]=l) (And.intro x1 (And.intro x2 (And.intro x3 (And.intro w1 (And.intro w2 (And.intro hR3 (And.intro e1 (And.intro e2 hmb)))))))))
 (refine run ?_;with_reducible repeat' first|exact trivial|(apply Fork.mk<;>intro hb)|apply Two.mk)
 exact finS (n0:=H.length) hR hC2 (hcl2 _) (.same _ (by simp[resSV,SV.under,hR1])) ⟨rfl,rfl⟩ (hn:=x2 _)
def msrL (l:List Pt):Nat:=(l.map fun p=>p.pat.msr).sum
structure FrAt (G:Gl) (K:List Blk) (t:Tb) (way:Ex) (s:Sh) (fields:List Str) (rest:Rst) (lim:Int) (fk:Nat) (caps:List SV) (mb tb ca la bs br bm bf bw bo:Nat):Prop where
 M:MkAt K t mb tb ca la
 R:RestC G tb mb K (.fn (.func fk) [] caps) rest lim
 U:SV.underL K.length caps=true
 s:K[bs]? =some (.cells 0 5 [.agg [.str s.con.name,.int .i64 s.con.arity,.int .i64 s.con.tag,.int .i64 s.con.family,.list 7 (ptCells s.parts)]])
 r:K[br]? =some (.cells 0 1 [.fn (.func fk) [] caps])
 m:K[bm]? =some (.cells 0 1 [.ptr mb 0 0 0])
 f:K[bf]? =some (.cells 0 1 [.list 1 (fields.map .str)])
 w:K[bw]? =some (.cells 0 8 [.agg way.cells])
 o:K[bo]? =some (.cells 0 1 [.fn (.func 77) [] [.ptr bs 0 0 0,.ptr br 0 0 0,.ptr bm 0 0 0,.ptr bf 0 0 0,.ptr bw 0 0 0,.ptr bo 0 0 0]])
 ns:mb≠bs∧mb≠br∧mb≠bm∧mb≠bf∧mb≠bw∧mb≠bo
theorem FrAt.app {G:Gl} {K:List Blk} {t:Tb} {way:Ex} {s:Sh} {fields:List Str} {rest:Rst} {lim:Int} {fk:Nat} {caps:List SV} {mb tb ca la bs br bm bf bw bo:Nat} (h:FrAt G K t way s fields rest lim fk caps mb tb ca la bs br bm bf bw bo) (L:List Blk):FrAt G (K++L) t way s fields rest lim fk caps mb tb ca la bs br bm bf bw bo:=
 ⟨h.M.app L,h.R.app h.M.m L,(SV.below_mono_both (by rw[List.length_append];omega)).2 _ h.U,get_app_left h.s,get_app_left h.r,get_app_left h.m,get_app_left h.f,get_app_left h.w,get_app_left h.o,h.ns⟩
theorem set_get {K:List Blk} {b mb:Nat} {x:Blk} (h:K[b]? =some x) (hn:mb≠b):(∀ y,(K.set mb y)[b]? =some x)∧(∀ y L,(K.set mb y++L)[b]? =some x)∧b<K.length:=
 ⟨fun y=>get_set_ne h hn,fun y L=>get_app_left (get_set_ne h hn),(List.getElem?_eq_some_iff.1 h).1⟩
def FromC (G:Gl) (t:Tb) (way:Ex) (s:Sh) (fields:List Str) (rest:Rst) (lim:Int) (fk:Nat) (caps:List SV) (mb tb ca la bs br bm bf bw bo f:Nat) (j:Nat):Prop:=∀ (K:List Blk) (n:Int),FrAt G K t way s fields rest lim fk caps mb tb ca la bs br bm bf bw bo→0≤n→n+101*msrL (s.parts.drop j)≤lim→
 ACall Tryd.prog G 77 [.int .i64 j,.ptr bs 0 0 0,.ptr br 0 0 0,.ptr bm 0 0 0,.ptr bf 0 0 0,.ptr bw 0 0 0,.ptr bo 0 0 0] (K.set mb (mkC tb n)) (fun r H'=>H'=K.set mb (mkC tb (frmF (matF t way f) fields rest (s.parts.drop j) n).2)∧r= .agg (frmF (matF t way f) fields rest (s.parts.drop j) n).1.cells)
theorem cl78_ok {G:Gl} {K:List Blk} {t:Tb} {way:Ex} {s:Sh} {fields:List Str} {rest:Rst} {lim:Int} {fk:Nat} {caps:List SV} {mb tb ca la bs br bm bf bw bo:Nat} (hG:GClosed G) {f j:Nat} (hF:FromC G t way s fields rest lim fk caps mb tb ca la bs br bm bf bw bo f (j+1)) (hj:j<4294967296) (h:FrAt G K t way s fields rest lim fk caps mb tb ca la bs br bm bf bw bo) (bi:Nat) (hbi:K[bi]? =some (.cells 0 1 [.int .i64 j])) (hbm:mb≠bi) (n:Int) (h0:0≤n) (hn:n+101*msrL (s.parts.drop (j+1))≤lim):
 ACall Tryd.prog G 78 [.ptr bo 0 0 0,.ptr bi 0 0 0] (K.set mb (mkC tb n)) (fun r H'=>H'=K.set mb (mkC tb (frmF (matF t way f) fields rest (s.parts.drop (j+1)) n).2)∧r= .agg (frmF (matF t way f) fields rest (s.parts.drop (j+1)) n).1.cells):=by
 obtain⟨x1,x2,x3⟩:=h.M.X
 obtain⟨y1,y2,y3⟩:=set_get h.o h.ns.2.2.2.2.2
 obtain⟨z1,z2,z3⟩:=set_get hbi hbm
 have hmb:=h.M.m
 have v1:ACallV Tryd.prog G (.fn (.func 77) [] [.ptr bs 0 0 0,.ptr br 0 0 0,.ptr bm 0 0 0,.ptr bf 0 0 0,.ptr bw 0 0 0,.ptr bo 0 0 0]) [.int .i64 ((j:Int)+1)] (K.set mb (mkC tb n)++[Blk.cells 0 8 [.agg [.int .i64 0,.str [],.int .i64 0,.int .i64 0,.list 1 [],.list 8 [],.list 9 [],.list 12 []]]]) (fun r H'=>H'=K.set mb (mkC tb (frmF (matF t way f) fields rest (s.parts.drop (j+1)) n).2)++[Blk.cells 0 8 [.agg [.int .i64 0,.str [],.int .i64 0,.int .i64 0,.list 1 [],.list 8 [],.list 9 [],.list 12 []]]]∧r= .agg (frmF (matF t way f) fields rest (s.parts.drop (j+1)) n).1.cells):=by
  have:=hF (K++[Blk.cells 0 8 [.agg [.int .i64 0,.str [],.int .i64 0,.int .i64 0,.list 1 [],.list 8 [],.list 9 [],.list 12 []]]]) n (h.app _) h0 hn
  simp only[List.set_append_left _ _ hmb] at this
  exact ACallV.of this
 have hR1:=(frmF (matF t way f) fields rest (s.parts.drop (j+1)) n).1.cells_under K.length
 have hR2:=(frmF (matF t way f) fields rest (s.parts.drop (j+1)) n).1.cells_len
 generalize frmF (matF t way f) fields rest (s.parts.drop (j+1)) n=R1 at*
 obtain⟨e1,n1⟩:=R1
 simp only at v1 hR1 hR2
 refine ACall.of_go TB [] tabOK _ Tryd.func78 rfl (by decide) Tryd.ntmps78 (by simp) rfl (by simp only[initEnv,Nat.reduceAdd];rfl) fun C R' hR hC hcl hB=>?_;have X:=noX;have hC':=congrArg List.length hC
 have hcl2:=closed_mk h.M hcl
 have hC2:C.H.length=K.length:=by rw[hC,x2]
 have X:=And.intro X (And.intro y1 (And.intro y2 (And.intro z1 (And.intro z2 (And.intro x2 hR2)))))
 (refine run ?_;with_reducible repeat' first|exact trivial|(apply Fork.mk<;>intro hb)|apply Two.mk)
 exact finS (n0:=K.length) hR hC2 (hcl2 _) (.same _ (by simp[resSV,SV.under,hR1])) ⟨rfl,rfl⟩ (hn:=x2 _)
theorem msrL_drop {l:List Pt} {j:Nat} (h:j<l.length):msrL (l.drop j)=l[j].pat.msr+msrL (l.drop (j+1)):=by
 rw[List.drop_eq_getElem_cons h];rfl
theorem from_ok {G:Gl} {K:List Blk} {t:Tb} {way:Ex} {s:Sh} {fields:List Str} {rest:Rst} {lim:Int} {fk:Nat} {caps:List SV} {mb tb ca la bs br bm bf bw bo:Nat} (G0:G=G) (hG:GClosed G) {f:Nat} (hfb:f<2147483648) (ih:MatC G t mb tb ca la way f) (hlim:lim≤1152921504606846976) (hpl:s.parts.length<4294967296) (hfl:fields.length<4294967296)
 (hpt:∀ q∈s.parts,q.pat.msr<f∧(rgtF t f q.pat).1=true∧0≤q.place∧q.place<fields.length):∀ (d j:Nat),d+j=s.parts.length→FromC G t way s fields rest lim fk caps mb tb ca la bs br bm bf bw bo f j:=by
 intro d
 induction d with
 |zero=>
  intro j hj K n h h0 hn
  obtain rfl:j=s.parts.length:=by omega
  obtain⟨x1,x2,x3⟩:=h.M.X
  have hmb:=h.M.m
  obtain⟨y1,y2,y3⟩:=set_get h.s h.ns.1
  obtain⟨z1,z2,z3⟩:=set_get h.r h.ns.2.1
  have q1:=ptCells_len s.parts
  rw[List.drop_length,frmF]
  have v1:=fun L=>h.R n L h0 (by omega)
  have hR1:=(rest n).1.cells_under K.length
  have hR2:=(rest n).1.cells_len
  generalize rest n=R1 at*
  obtain⟨e1,n1⟩:=R1
  simp only at v1 hR1 hR2
  refine ACall.of_go TB [] tabOK _ Tryd.func77 rfl (by decide) Tryd.ntmps77 (by simp) rfl (by simp only[initEnv,Nat.reduceAdd];rfl) fun C R' hR hC hcl hB=>?_;have X:=noX;have hC':=congrArg List.length hC
  have hcl2:=closed_mk h.M hcl
  have hC2:C.H.length=K.length:=by rw[hC,x2]
  have X:=And.intro X (And.intro y1 (And.intro y2 (And.intro z1 (And.intro z2 (And.intro x2 (And.intro hR2 (And.intro q1 y3)))))))
  (refine run ?_;with_reducible repeat' first|exact trivial|(apply Fork.mk<;>intro hb)|apply Two.mk)
  exact finS (n0:=K.length) hR hC2 (hcl2 _) (.same _ (by simp[resSV,SV.under,hR1])) ⟨rfl,rfl⟩ (hn:=x2 _)
 |succ d ihd=>
  intro j hj K n h h0 hn
  have hlt:j<s.parts.length:=by omega
  have hF:=ihd (j+1) (by omega)
  rw[msrL_drop hlt] at hn
  obtain⟨p1,p2,p3,p4⟩:=hpt _ (List.getElem_mem hlt)
  rw[List.drop_eq_getElem_cons hlt,frmF]
  have q1:=ptCells_len s.parts
  have e1:(ptCells s.parts)[j]? =some (.agg (.int .i64 s.parts[j].place::s.parts[j].pat.cells)):=by rw[ptCells_get2,List.getElem?_eq_getElem hlt];rfl
  have e2:=s.parts[j].pat.cells_len
  have e3:=s.parts[j].pat.cells_take
  have hne:¬ (j:Int)=(s.parts.length:Int):=by omega
  have u1:SV.underL K.length s.parts[j].pat.cells=true:=s.parts[j].pat.cells_under _
  generalize s.parts[j]=q at*
  obtain⟨pl,q⟩:=q
  simp only at p1 p2 p3 p4 e1 e2 e3 hn u1 ⊢
  obtain⟨pk,rfl⟩:∃ k:Nat,pl=k:=⟨pl.toNat,by omega⟩
  have hpk:pk<fields.length:=by omega
  have f1:(fields.map SV.str)[pk]? =some (.str fields[pk]):=by rw[List.getElem?_map,List.getElem?_eq_getElem hpk];rfl
  have f2:(fields.map SV.str).length=fields.length:=by simp
  have f3:fields.getD pk []=fields[pk]:=by rw[List.getD_eq_getElem?_getD,List.getElem?_eq_getElem hpk];rfl
  rw[Int.toNat_natCast,f3]
  obtain⟨x1,x2,x3⟩:=h.M.X
  have hmb:=h.M.m
  obtain⟨y1,y2,y3⟩:=set_get h.s h.ns.1
  obtain⟨z1,z2,z3⟩:=set_get h.m h.ns.2.2.1
  obtain⟨w1,w2,w3⟩:=set_get h.f h.ns.2.2.2.1
  obtain⟨v1,v2,v3⟩:=set_get h.w h.ns.2.2.2.2.1
  have hbo:=(List.getElem?_eq_some_iff.1 h.o).1
  have hw1:=way.cells_len
  have hw2:=way.cells_take
  have hcall:∀ col,ACall Tryd.prog G 58 [.ptr mb 0 0 0,.agg q.cells,.str col,.agg way.cells,.fn (.func 78) [] [.ptr bo 0 0 0,.ptr K.length 0 0 0]] (K.set mb (mkC tb n)++[.cells 0 1 [.int .i64 j],Blk.cells 0 8 [.agg [.int .i64 0,.str [],.int .i64 0,.int .i64 0,.list 1 [],.list 8 [],.list 9 [],.list 12 []]]]) (fun r H'=>H'=K.set mb (mkC tb (matF t way f q col (frmF (matF t way f) fields rest (s.parts.drop (j+1))) n).2)++[.cells 0 1 [.int .i64 j],Blk.cells 0 8 [.agg [.int .i64 0,.str [],.int .i64 0,.int .i64 0,.list 1 [],.list 8 [],.list 9 [],.list 12 []]]]∧r= .agg (matF t way f q col (frmF (matF t way f) fields rest (s.parts.drop (j+1))) n).1.cells):=fun col=>by
   have:=ih q col (frmF (matF t way f) fields rest (s.parts.drop (j+1))) 78 [.ptr bo 0 0 0,.ptr K.length 0 0 0] (K++[.cells 0 1 [.int .i64 j],Blk.cells 0 8 [.agg [.int .i64 0,.str [],.int .i64 0,.int .i64 0,.list 1 [],.list 8 [],.list 9 [],.list 12 []]]]) (lim - 101*msrL (s.parts.drop (j+1))) n p1 hfb p2 (h.M.app _) (fun n' L a1 a2=>by
    have hcl:=cl78_ok hG hF (by omega) ((h.app [.cells 0 1 [.int .i64 j],Blk.cells 0 8 [.agg [.int .i64 0,.str [],.int .i64 0,.int .i64 0,.list 1 [],.list 8 [],.list 9 [],.list 12 []]]]).app L) K.length (by rw[List.append_assoc,get_app0];rfl) (by omega) n' a1 (by omega)
    rw[List.set_append_left _ _ (by rw[List.length_append];omega)] at hcl
    have hcl:=hcl.mono (R':=fun r H'=>H'=(K++[Blk.cells 0 1 [.int .i64 j],Blk.cells 0 8 [.agg [.int .i64 0,.str [],.int .i64 0,.int .i64 0,.list 1 [],.list 8 [],.list 9 [],.list 12 []]]]).set mb (mkC tb (frmF (matF t way f) fields rest (s.parts.drop (j+1)) n').2)++L∧r= .agg (frmF (matF t way f) fields rest (s.parts.drop (j+1)) n').1.cells) fun r H' k=>⟨by rw[k.1,List.set_append_left _ _ (by rw[List.length_append];omega)],k.2⟩
    exact ACallV.of hcl) (by simp[SV.underL,SV.under];omega) (by omega) h0 (by omega)
   simpa only[List.set_append_left _ _ hmb] using this
  have hc:=hcall fields[pk]
  clear hcall
  have hR1:=(matF t way f q fields[pk] (frmF (matF t way f) fields rest (s.parts.drop (j+1))) n).1.cells_under K.length
  have hR2:=(matF t way f q fields[pk] (frmF (matF t way f) fields rest (s.parts.drop (j+1))) n).1.cells_len
  generalize matF t way f q fields[pk] (frmF (matF t way f) fields rest (s.parts.drop (j+1))) n=R1 at*
  obtain⟨r1,n1⟩:=R1
  simp only at hc hR1 hR2
  generalize fields[pk]=fpk at*
  generalize fields.map SV.str=FS at*
  generalize ptCells s.parts=PP at*
  refine ACall.of_go TB [] tabOK _ Tryd.func77 rfl (by decide) Tryd.ntmps77 (by simp) rfl (by simp only[initEnv,Nat.reduceAdd];rfl) fun C R' hR hC hcl hB=>?_;have X:=noX;have hC':=congrArg List.length hC
  have hcl2:=closed_mk h.M hcl
  have hC2:C.H.length=K.length:=by rw[hC,x2]
  have X:=And.intro X (And.intro y1 (And.intro y2 (And.intro z1 (And.intro z2 (And.intro x2 (And.intro hR2 (And.intro q1 (And.intro hne (And.intro e1 (And.intro e2 (And.intro e3 (And.intro f1 (And.intro f2 (And.intro w1 (And.intro w2 (And.intro v1 (And.intro v2 (And.intro hw1 hw2))))))))))))))))))
  (refine run ?_;with_reducible repeat' first|exact trivial|(apply Fork.mk<;>intro hb)|apply Two.mk)
  refine xcallS hc ?_
  rintro r H' ⟨rfl,rfl⟩
  (refine run ?_;with_reducible repeat' first|exact trivial|(apply Fork.mk<;>intro hb)|apply Two.mk)
  exact finS (n0:=K.length) hR hC2 (hcl2 _) (.same _ (by simp[resSV,SV.under,hR1])) ⟨rfl,rfl⟩ (hn:=x2 _)
theorem rgtL_parts {F:Nd→Bool×Bool}:∀ {l:List Pt} {su:Bool},(rgtL F su l).1=true→∀ x∈l,(F x.pat).1=true
 |x::r,su,h,y,hy=>by
  rw[rgtL] at h
  split at h
  ·rename_i hx
   rcases List.mem_cons.1 hy with rfl|hy
   ·exact hx
   ·exact rgtL_parts h y hy
  ·cases h
theorem consF_mem {l:List Cn} {s:Str} {c:Cn} (h:consF l s=some c):c∈l:=List.mem_of_find?_eq_some h
theorem shpF_con {t:Tb} {p:Nd} {s:Sh} (h:shpF t p=some s):s.con∈t.cons:=by
 have hp:∀ {x:Str} {l:List Nd},plainF t.cons x l=some s→s.con∈t.cons:=fun h=>consF_mem (plainF_some h).1
 have hl:∀ {l:List Nd},listF t.cons l=some s→s.con∈t.cons:=fun {l} h=>by
  cases l with
  |nil=>exact hp h
  |cons _ _=>exact hp h
 unfold shpF at h
 split at h
 ·exact hp h
 split at h
 ·split at h
  ·exact hp h
  split at h
  ·exact hp h
  ·cases h
 split at h
 ·exact hl h
 split at h
 ·split at h
  ·exact hl h
  ·cases h
 split at h
 ·split at h
  ·rename_i c hc
   obtain⟨ps,h1,rfl⟩:=Option.map_eq_some_iff.1 h
   exact consF_mem hc
  ·cases h
 ·cases h
theorem msrL_le (l:List Pt):msrL l≤ptsMsr l:=by
 induction l with
 |nil=>exact Nat.le_refl _
 |cons x r ih=>simp only[msrL,ptsMsr,List.map_cons,List.sum_cons] at ih ⊢;omega
theorem ptsMsr_len (l:List Pt):l.length≤ptsMsr l:=by
 induction l with
 |nil=>exact Nat.le_refl _
 |cons x r ih=>simp only[ptsMsr,List.map_cons,List.sum_cons,List.length_cons] at ih ⊢;omega
theorem match_con (G:Gl) (hG:GClosed G) (C0:Cx) (hb0:G.base=some C0) (hL:LibAt C0) (t:Tb) (mb tb ca la:Nat) (way:Ex) (f:Nat) (p:Nd) (col:Str) (rest:Rst) (fk:Nat) (caps:List SV) (H:List Blk) (lim n:Int) (ih:MatC G t mb tb ca la way f) (hm:p.msr<f+1) (hf:f+1<2147483648) (hr:(rgtF t (f+1) p).1=true) (hM:MkAt H t mb tb ca la) (hrest:RestC G tb mb H (.fn (.func fk) [] caps) rest lim) (hfn:SV.underL H.length caps=true) (hlim:lim≤1152921504606846976) (h0:0≤n) (hn:n+101*p.msr≤lim) (har:∀ c∈t.cons,c.arity≤100) (h43:¬ p.kind=43) (h42:¬ p.kind=42) (h50:¬ p.kind=50) (h44:¬ p.kind=44) (s:Sh) (hs:shpF t p=some s) (fields:List Str) (hfd:fields=fldN s.con.arity.toNat (n+1)) (R1:Ex×Int) (hR1:R1=frmF (matF t way f) fields rest s.parts (n+1+s.con.arity.toNat)):
 ACall Tryd.prog G 58 [.ptr mb 0 0 0,.agg p.cells,.str col,.agg way.cells,.fn (.func fk) [] caps] (H.set mb (mkC tb n)) (fun r H'=>H'=H.set mb (mkC tb R1.2)∧r= .agg (ofE col (nmN n) (conA s.con.name fields R1.1::if s.con.family=1 then [] else [otherA way])).cells):=by
 obtain⟨x1,x2,x3⟩:=hM.X
 have hmb:=hM.m
 have htb:tb<H.length:=(List.getElem?_eq_some_iff.1 hM.T.h).1
 have hlen:=p.msr_lens
 have hsm:=shpF_msr hs
 have hml:=msrL_le s.parts
 have hpl:=ptsMsr_len s.parts
 have hK:s.con.arity.toNat≤100:=by have:=har _ (shpF_con hs);omega
 have hpt:∀ q∈s.parts,q.pat.msr<f∧(rgtF t f q.pat).1=true∧0≤q.place∧q.place<fields.length:=fun q hq=>by
  have h1:=shpF_part hs hq
  have h2:=shpF_place hs q hq
  refine⟨by omega,?_,h2.1,by rw[hfd,fldN_len];omega⟩
  rw[rgtF,if_neg h43,if_neg h42,if_neg h44,if_neg h50,hs] at hr
  exact rgtL_parts hr q hq
 have hsh:=fun L=>shpM_ok G hG t tb ca la p (by omega) (by omega) (H.set mb (mkC tb n)++L) (hM.TT _ L)
 have hfr:∀ (m:Int) (L:List Blk),0≤m→m<4611686018427387904→ACall Tryd.prog G 46 [.ptr mb 0 0 0] (H.set mb (mkC tb m)++L) (fun r H'=>H'=H.set mb (mkC tb (m+1))++L∧r= .str (nmN m)):=fun m L a1 a2=>by
  have:=fresh_ok G hG C0 hb0 hL tb mb m a1 a2 (H.set mb (mkC tb m)++L) (x1 _ _)
  rwa[x3] at this
 have c1:=fun L=>hfr n L h0 (by omega)
 have w1:=way.cells_len
 have w2:=way.cells_take
 have w3:=way.cells_under H.length
 obtain⟨k,nm,pn,a,b,l⟩:=p
 simp only[Nd.kind,Nd.cells] at h43 h42 h50 h44 hsh ⊢
 have u1:SV.underL H.length (ndCells l)=true:=ndCells_under _ _
 have u2:SV.underL H.length (ptCells s.parts)=true:=ptCells_under _ _
 have u5:SV.underL H.length [SV.fn (.func fk) [] caps]=true:=by simp[SV.underL,SV.under,hfn]
 have u6:SV.underL H.length [.agg [.int .i64 k,.str nm,.int .i64 pn,.int .i64 a,.int .i64 b,.list 6 (ndCells l)]]=true:=by simp[SV.underL,SV.under,u1]
 have u7:SV.underL H.length [.agg [.str s.con.name,.int .i64 s.con.arity,.int .i64 s.con.tag,.int .i64 s.con.family,.list 7 (ptCells s.parts)]]=true:=by simp[SV.underL,SV.under,u2]
 have u3:SV.underL H.length (.int .i64 3:: .str []:: .int .i64 0:: .list 1 []::way.cells)=true:=by simp[SV.underL,SV.under,w3]
 refine ACall.of_go TB [96] tabOK _ Tryd.func58 rfl (by decide) Tryd.ntmps58 (by simp) rfl (by simp only[initEnv,Nat.reduceAdd];rfl) fun C R' hR hC hcl hB=>?_;have X:=noX;have hC':=congrArg List.length hC
 have hcl2:=closed_mk hM hcl
 have hC2:C.H.length=H.length:=by rw[hC,x2]
 have X0:=And.intro noX (And.intro (fun l=>List.append_nil l:∀ l:List SV,l++[]=l) (And.intro x1 (And.intro x2 (And.intro x3 (And.intro w1 (And.intro w2 hmb))))))
 have X:=And.intro X0 (And.intro h43 (And.intro h42 (And.intro h50 h44)))
 (refine runD ?_;with_reducible repeat' first|exact trivial|(apply Fork.mk<;>intro hb)|apply Two.mk)
 refine go_cut (fun _:Unit=>[(2,.str col),(5,.ptr H.length 0 0 0),(8,.ptr (H.length+1) 0 0 0),(9,.ptr (H.length+2) 0 0 0),(10,.ptr (H.length+3) 0 0 0),(11,.ptr (H.length+4) 0 0 0),(13,.ptr (H.length+5) 0 0 0)]) (fun _=>H.set mb (mkC tb n)++[.cells 0 1 [.ptr mb 0 0 0],.cells 0 8 [.agg way.cells],.cells 0 1 [.fn (.func fk) [] caps],.cells 0 8 [.agg [.int .i64 0,.str [],.int .i64 0,.int .i64 0,.list 1 [],.list 8 [],.list 9 [],.list 12 []]],.cells 0 12 [.agg (.int .i64 3:: .str []:: .int .i64 0:: .list 1 []::way.cells)],.cells 0 5 [.agg [.str s.con.name,.int .i64 s.con.arity,.int .i64 s.con.tag,.int .i64 s.con.family,.list 7 (ptCells s.parts)]]]) (fun _=>True) (fun K hK=>?_) (fun _ _=>?_)
 ·(refine run ?_;with_reducible repeat' first|exact trivial|(apply Fork.mk<;>intro hb)|apply Two.mk)
  all_goals
   refine xcallS (hsh _) ?_
   rw[hs]
   rintro r H' ⟨rfl,c,pv,bb,hp,rfl,rfl,rfl,rfl⟩
   (refine run ?_;with_reducible repeat' first|exact trivial|(apply Fork.mk<;>intro hb)|apply Two.mk)
   refine hK _ _ () trivial ?_
   exact wkS (n0:=H.length) [(H.length,0),(H.length+2,0),(H.length+3,0),(H.length+4,0),(H.length+5,0),(H.length+6,0)] hG hB hC2 (hcl2 _) (hn:=x2 _)
 clear hsh X
 have X:=X0
 (refine run ?_;with_reducible repeat' first|exact trivial|(apply Fork.mk<;>intro hb)|apply Two.mk)
 obtain⟨K1,hK1⟩:∃ K1:Nat,s.con.arity.toNat=K1:=⟨_,rfl⟩
 rw[hK1] at hK hfd hR1
 refine go_loop (fun i:Nat=>[(2,.str col),(5,.ptr H.length 0 0 0),(8,.ptr (H.length+1) 0 0 0),(9,.ptr (H.length+2) 0 0 0),(10,.ptr (H.length+3) 0 0 0),(11,.ptr (H.length+4) 0 0 0),(13,.ptr (H.length+5) 0 0 0),(15,.str (nmN n)),(16,.ptr (H.length+6) 0 0 0),(79,.int .i64 s.con.arity),(80,.int .i64 i)]) (fun i=>H.set mb (mkC tb (n+1+i))++[.cells 0 1 [.ptr mb 0 0 0],.cells 0 8 [.agg way.cells],.cells 0 1 [.fn (.func fk) [] caps],.cells 0 8 [.agg [.int .i64 0,.str [],.int .i64 0,.int .i64 0,.list 1 [],.list 8 [],.list 9 [],.list 12 []]],.cells 0 12 [.agg (.int .i64 3:: .str []:: .int .i64 0:: .list 1 []::way.cells)],.cells 0 5 [.agg [.str s.con.name,.int .i64 s.con.arity,.int .i64 s.con.tag,.int .i64 s.con.family,.list 7 (ptCells s.parts)]],.cells 0 1 [.sl (H.length+7) 0 0 i],.cells 0 1 ((fldN i (n+1)).map .str)]) (fun i=>K1 - i) (fun i=>i≤K1) 0 (Nat.zero_le _) ?_ ?_
 ·refine Wk.trans (wk_ghostC (id:=H.length+6) (g:=0) (s:=1) (i:=0) (vals:=[.nil]) 1 (get_appS ..) rfl) ?_
  rw[set_appS]
  simp only[List.set_cons_succ,List.set_cons_zero,List.length_append,x2,List.length_cons,List.length_nil,List.append_assoc,List.cons_append,List.nil_append,fldN,List.map_nil,Int.natCast_zero,Int.add_zero,Nat.reduceAdd]
  exact Wk.sub (by simp[subEnv,look])
 rintro K i hi hK
 rcases Nat.lt_or_ge i K1 with hlt|hge
 ·have hlt2:(i:Int)<s.con.arity:=by omega
  have c2:=fun L=>hfr (n+1+i) L (by omega) (by omega)
  have hsn:=fldN_snoc i (n+1)
  have e4:((fldN i (n+1)).map SV.str).length=i:=by simp
  have X:=And.intro X0 (And.intro hlt2 e4)
  (refine run ?_;with_reducible repeat' first|exact trivial|(apply Fork.mk<;>intro hb)|apply Two.mk)
  refine hK _ _ (i+1) (by omega) (show i+1≤K1 by omega) ?_
  simp only[hsn,List.map_append,List.map_cons,List.map_nil]
  rw[show n+1+((i+1:Nat):Int)=n+1+i+1 by omega]
  exact wkS (n0:=H.length) [(H.length,0),(H.length+1,0),(H.length+2,0),(H.length+3,0),(H.length+4,0),(H.length+5,0),(H.length+6,0),(H.length+7,0)] hG hB hC2 (hcl2 _) (hn:=x2 _)
 obtain rfl:i=K1:=by omega
 clear hK
 have hno:¬ (i:Int)<s.con.arity:=by omega
 refine go_wkC [(2,.str col),(5,.ptr H.length 0 0 0),(8,.ptr (H.length+1) 0 0 0),(9,.ptr (H.length+2) 0 0 0),(10,.ptr (H.length+3) 0 0 0),(11,.ptr (H.length+4) 0 0 0),(13,.ptr (H.length+5) 0 0 0),(15,.str (nmN n)),(16,.ptr (H.length+6) 0 0 0),(79,.int .i64 s.con.arity),(80,.int .i64 i)] (H.set mb (mkC tb (n+1+i))++[.cells 0 1 [.ptr mb 0 0 0],.cells 0 8 [.agg way.cells],.cells 0 1 [.fn (.func fk) [] caps],.cells 0 8 [.agg [.int .i64 0,.str [],.int .i64 0,.int .i64 0,.list 1 [],.list 8 [],.list 9 [],.list 12 []]],.cells 0 12 [.agg (.int .i64 3:: .str []:: .int .i64 0:: .list 1 []::way.cells)],.cells 0 5 [.agg [.str s.con.name,.int .i64 s.con.arity,.int .i64 s.con.tag,.int .i64 s.con.family,.list 7 (ptCells s.parts)]],.cells 0 1 [.list 1 ((fldN i (n+1)).map .str)]]) (wkS (n0:=H.length) [(H.length,0),(H.length+1,0),(H.length+2,0),(H.length+3,0),(H.length+4,0),(H.length+5,0),(H.length+6,0)] hG hB hC2 (hcl2 _) (hn:=x2 _)) ?_
 rw[← hfd]
 have hv:ACallV Tryd.prog G (.fn (.func 77) [] [.ptr (H.length+5) 0 0 0,.ptr (H.length+2) 0 0 0,.ptr H.length 0 0 0,.ptr (H.length+6) 0 0 0,.ptr (H.length+1) 0 0 0,.ptr (H.length+7) 0 0 0]) [.int .i64 0] (H.set mb (mkC tb (n+1+i))++[.cells 0 1 [.ptr mb 0 0 0],.cells 0 8 [.agg way.cells],.cells 0 1 [.fn (.func fk) [] caps],.cells 0 8 [.agg [.int .i64 0,.str [],.int .i64 0,.int .i64 0,.list 1 [],.list 8 [],.list 9 [],.list 12 []]],.cells 0 12 [.agg (.int .i64 3:: .str []:: .int .i64 0:: .list 1 []::way.cells)],.cells 0 5 [.agg [.str s.con.name,.int .i64 s.con.arity,.int .i64 s.con.tag,.int .i64 s.con.family,.list 7 (ptCells s.parts)]],.cells 0 1 [.list 1 (fields.map .str)],.cells 0 1 [.fn (.func 77) [] [.ptr (H.length+5) 0 0 0,.ptr (H.length+2) 0 0 0,.ptr H.length 0 0 0,.ptr (H.length+6) 0 0 0,.ptr (H.length+1) 0 0 0,.ptr (H.length+7) 0 0 0]]]) (fun r H'=>H'=H.set mb (mkC tb R1.2)++[.cells 0 1 [.ptr mb 0 0 0],.cells 0 8 [.agg way.cells],.cells 0 1 [.fn (.func fk) [] caps],.cells 0 8 [.agg [.int .i64 0,.str [],.int .i64 0,.int .i64 0,.list 1 [],.list 8 [],.list 9 [],.list 12 []]],.cells 0 12 [.agg (.int .i64 3:: .str []:: .int .i64 0:: .list 1 []::way.cells)],.cells 0 5 [.agg [.str s.con.name,.int .i64 s.con.arity,.int .i64 s.con.tag,.int .i64 s.con.family,.list 7 (ptCells s.parts)]],.cells 0 1 [.list 1 (fields.map .str)],.cells 0 1 [.fn (.func 77) [] [.ptr (H.length+5) 0 0 0,.ptr (H.length+2) 0 0 0,.ptr H.length 0 0 0,.ptr (H.length+6) 0 0 0,.ptr (H.length+1) 0 0 0,.ptr (H.length+7) 0 0 0]]]∧r= .agg R1.1.cells):=by
  have hfo:=from_ok (G:=G) (K:=[]) (t:=t) (way:=way) (s:=s) (fields:=fields) (rest:=rest) (lim:=lim) (fk:=fk) (caps:=caps) (mb:=mb) (tb:=tb) (ca:=ca) (la:=la) (bs:=H.length+5) (br:=H.length+2) (bm:=H.length) (bf:=H.length+6) (bw:=H.length+1) (bo:=H.length+7) rfl hG (f:=f) (by omega) ih hlim (by omega) (by rw[hfd,fldN_len];omega) hpt s.parts.length 0 rfl
  have hat:FrAt G (H++[.cells 0 1 [.ptr mb 0 0 0],.cells 0 8 [.agg way.cells],.cells 0 1 [.fn (.func fk) [] caps],.cells 0 8 [.agg [.int .i64 0,.str [],.int .i64 0,.int .i64 0,.list 1 [],.list 8 [],.list 9 [],.list 12 []]],.cells 0 12 [.agg (.int .i64 3:: .str []:: .int .i64 0:: .list 1 []::way.cells)],.cells 0 5 [.agg [.str s.con.name,.int .i64 s.con.arity,.int .i64 s.con.tag,.int .i64 s.con.family,.list 7 (ptCells s.parts)]],.cells 0 1 [.list 1 (fields.map .str)],.cells 0 1 [.fn (.func 77) [] [.ptr (H.length+5) 0 0 0,.ptr (H.length+2) 0 0 0,.ptr H.length 0 0 0,.ptr (H.length+6) 0 0 0,.ptr (H.length+1) 0 0 0,.ptr (H.length+7) 0 0 0]]]) t way s fields rest lim fk caps mb tb ca la (H.length+5) (H.length+2) H.length (H.length+6) (H.length+1) (H.length+7):=
   ⟨hM.app _,hrest.app hmb _,(SV.below_mono_both (by rw[List.length_append];omega)).2 _ hfn,by rw[get_app];rfl,by rw[get_app];rfl,by rw[get_app0];rfl,by rw[get_app];rfl,by rw[get_app];rfl,by rw[get_app];rfl,by omega⟩
  have:=hfo _ (n+1+i) hat (by omega) (by rw[List.drop_zero];omega)
  rw[List.drop_zero,← hR1] at this
  simp only[List.set_append_left _ _ hmb] at this
  exact ACallV.of this
 have hR3:=R1.1.cells_len
 have hR4:=R1.1.cells_take
 have u8:=R1.1.cells_under H.length
 have v1:=hv
 clear hv hfr c1 hR1
 obtain⟨r1,n1⟩:=R1
 simp only at v1 hR3 hR4 u8 ⊢
 generalize nmN n=nm0 at*
 have X:=And.intro X0 (And.intro hno (And.intro hR3 hR4))
 (refine run ?_;with_reducible repeat' first|exact trivial|(apply Fork.mk<;>intro hb)|apply Two.mk)
 ·have c1:=fun H2=>of_ok G hG col nm0 ([conA s.con.name fields r1,otherA way]) H2
  have u9:SV.underL H.length [.agg (.int .i64 1:: .str s.con.name:: .int .i64 0:: .list 1 (fields.map .str)::r1.cells),.agg (.int .i64 3:: .str []:: .int .i64 0:: .list 1 []::way.cells)]=true:=by simp[SV.underL,SV.under,w3,u8,show SV.underL H.length (fields.map SV.str)=true from SV.underL_map fun _ _=>rfl]
  have u10:=(ofE col nm0 ([conA s.con.name fields r1,otherA way])).cells_under H.length
  have u11:=(ofE col nm0 ([conA s.con.name fields r1,otherA way])).cells_len
  rw[if_neg hb] at hR
  generalize ofE col nm0 ([conA s.con.name fields r1,otherA way])=R2 at*
  simp only[alCells,conA,otherA,Al.cells,List.map_nil] at c1
  refine go_wkO [(107,.list 12 [.agg (.int .i64 1:: .str s.con.name:: .int .i64 0:: .list 1 (fields.map .str)::r1.cells),.agg (.int .i64 3:: .str []:: .int .i64 0:: .list 1 []::way.cells)]),(106,.str nm0),(105,.str col),(10,.ptr H.length 0 0 0)] (H.set mb (mkC tb n1)++[.cells 0 8 [.agg [.int .i64 0,.str [],.int .i64 0,.int .i64 0,.list 1 [],.list 8 [],.list 9 [],.list 12 []]]]) (wkS (n0:=H.length) [(H.length+3,0)] hG hB hC2 (hcl2 _) (hn:=x2 _)) ?_
  have X:=And.intro X0 u11
  (refine run ?_;with_reducible repeat' first|exact trivial|(apply Fork.mk<;>intro hb)|apply Two.mk)
  exact finS (n0:=H.length) hR hC2 (hcl2 _) (.same _ (by simp[resSV,SV.under,u10])) ⟨rfl,rfl⟩ (hn:=x2 _)
 ·have c1:=fun H2=>of_ok G hG col nm0 ([conA s.con.name fields r1]) H2
  have u9:SV.underL H.length [.agg (.int .i64 1:: .str s.con.name:: .int .i64 0:: .list 1 (fields.map .str)::r1.cells)]=true:=by simp[SV.underL,SV.under,w3,u8,show SV.underL H.length (fields.map SV.str)=true from SV.underL_map fun _ _=>rfl]
  have u10:=(ofE col nm0 ([conA s.con.name fields r1])).cells_under H.length
  have u11:=(ofE col nm0 ([conA s.con.name fields r1])).cells_len
  rw[if_pos (Classical.not_not.1 hb)] at hR
  generalize ofE col nm0 ([conA s.con.name fields r1])=R2 at*
  simp only[alCells,conA,otherA,Al.cells,List.map_nil] at c1
  refine go_wkO [(107,.list 12 [.agg (.int .i64 1:: .str s.con.name:: .int .i64 0:: .list 1 (fields.map .str)::r1.cells)]),(106,.str nm0),(105,.str col),(10,.ptr H.length 0 0 0)] (H.set mb (mkC tb n1)++[.cells 0 8 [.agg [.int .i64 0,.str [],.int .i64 0,.int .i64 0,.list 1 [],.list 8 [],.list 9 [],.list 12 []]]]) (wkS (n0:=H.length) [(H.length+3,0)] hG hB hC2 (hcl2 _) (hn:=x2 _)) ?_
  have X:=And.intro X0 u11
  (refine run ?_;with_reducible repeat' first|exact trivial|(apply Fork.mk<;>intro hb)|apply Two.mk)
  exact finS (n0:=H.length) hR hC2 (hcl2 _) (.same _ (by simp[resSV,SV.under,u10])) ⟨rfl,rfl⟩ (hn:=x2 _)
theorem mat_ok (G:Gl) (hG:GClosed G) (C0:Cx) (hb0:G.base=some C0) (hL:LibAt C0) (t:Tb) (har:∀ c∈t.cons,c.arity≤100) (mb tb ca la:Nat) (way:Ex):∀ f:Nat,MatC G t mb tb ca la way f
 |0=>fun p _ _ _ _ _ _ _ h=>absurd h (by omega)
 |f+1=>fun p col rest fk caps H lim n hm hf hr hM hrest hfn hlim h0 hn=>by
  have ih:=mat_ok G hG C0 hb0 hL t har mb tb ca la way f
  by_cases h43:p.kind=43
  ·rw[show matF t way (f+1) p col rest=rest by rw[matF,if_pos h43]]
   exact match_43 G hG C0 hb0 hL t mb tb ca la way f p col rest fk caps H lim n hm hf hr hM hrest hfn hlim h0 hn h43
  by_cases h42:p.kind=42
  ·rw[show matF t way (f+1) p col rest=fun n=>(letE p.name (varE col) (rest n).1,(rest n).2) by rw[matF,if_neg h43,if_pos h42]]
   exact match_42 G hG C0 hb0 hL t mb tb ca la way f p col rest fk caps H lim n hm hf hr hM hrest hfn hlim h0 hn h42
  by_cases h50:p.kind=50
  ·have hq:∃ q,p.subs=[q]∧(rgtF t f q).1=true:=by
    rw[rgtF,if_neg h43,if_neg h42,if_neg (by omega),if_pos h50] at hr
    split at hr
    ·rename_i q hq
     split at hr
     ·cases hr
     ·exact⟨q,hq,hr⟩
    ·cases hr
   obtain⟨q,hq,hr2⟩:=hq
   rw[show matF t way (f+1) p col rest=fun n=>(letE p.name (varE col) (matF t way f q col rest n).1,(matF t way f q col rest n).2) by rw[matF,if_neg h43,if_neg h42,if_pos h50,hq]]
   exact match_50 G hG C0 hb0 hL t mb tb ca la way f p col rest fk caps H lim n ih hm hf hr hM hrest hfn hlim h0 hn h50 q hq hr2
  by_cases h44:p.kind=44
  ·rw[show matF t way (f+1) p col rest=fun n=>(ofE col (nmN n) [litA p.n (rest (n+1)).1,otherA way],(rest (n+1)).2) by rw[matF,if_neg h43,if_neg h42,if_neg h50,if_pos h44]]
   exact match_44 G hG C0 hb0 hL t mb tb ca la way f p col rest fk caps H lim n hm hf hr hM hrest hfn hlim h0 hn h44
  have hs:∃ s,shpF t p=some s:=by
   rw[rgtF,if_neg h43,if_neg h42,if_neg h44,if_neg h50] at hr
   cases hsh:shpF t p with
   |none=>rw[hsh] at hr;cases hr
   |some s=>exact⟨s,rfl⟩
  obtain⟨s,hs⟩:=hs
  have hmf:matF t way (f+1) p col rest n=(ofE col (nmN n) (conA s.con.name (fldN s.con.arity.toNat (n+1)) (frmF (matF t way f) (fldN s.con.arity.toNat (n+1)) rest s.parts (n+1+s.con.arity.toNat)).1::if s.con.family=1 then [] else [otherA way]),(frmF (matF t way f) (fldN s.con.arity.toNat (n+1)) rest s.parts (n+1+s.con.arity.toNat)).2):=by
   rw[matF,if_neg h43,if_neg h42,if_neg h50,if_neg h44,hs]
  rw[hmf]
  exact match_con G hG C0 hb0 hL t mb tb ca la way f p col rest fk caps H lim n ih hm hf hr hM hrest hfn hlim h0 hn har h43 h42 h50 h44 s hs _ rfl _ rfl
theorem ACall.fin {P:Program} {G:Gl} {f:FuncId} {args:List SV} {H:List Blk} {R R':SV→List Blk→Prop} (h:ACall P G f args H R)
 (hf:∀ C x H',C.H=H→closed H→R x H'→Fin C H' x R'):ACall P G f args H R':=
 ⟨h.1,fun c vs h1 h2 h3 h4=>(h.2 c vs h1 h2 h3 h4).mono fun e w' ⟨v,x,c',a1,a2,a3,a4,a5,a6⟩=>
  let ⟨c2,y,b1,b2,b3,b4,b5⟩:=hf c x c'.H h1 (h1 ▸ h2.closed) a3 c' v rfl a4 a5 a6
  ⟨v,y,c2,a1,b1.trans a2,b2,b3,b4,b5⟩⟩
theorem ACall.argsOf {P:Program} {G:Gl} {f:FuncId} {args args':List SV} {H:List Blk} {R:SV→List Blk→Prop} (h:ACall P G f args H R)
 (ha:∀ c vs,RepL c args' vs→RepL c args vs):ACall P G f args' H R:=
 ⟨h.1,fun c vs h1 h2 h3 h4=>h.2 c vs h1 h2 h3 (ha c vs h4)⟩
theorem ACall.frz {P:Program} {G:Gl} {f:FuncId} {args:List SV} {H:List Blk} {sz:Nat} {vs:List SV} {n:Nat} (hu:SV.underL H.length vs=true) (hn:vs.length=n)
 (h:ACall P G f args H (fun r H'=>H'=H++[.cells 0 sz vs]∧r= .sl H.length 0 0 n)):ACall P G f args H (fun r H'=>H'=H∧r= .list sz vs):=
 h.fin fun C x H' h1 hcl hr=>by
  obtain⟨rfl,rfl⟩:=hr
  exact Fin.tellN (n0:=H.length) (R0:=fun r H'=>H'=H∧r= .list sz vs) (fun _ _ h=>h) rfl (by rw[h1]) hcl (Frz.sf (g:=0) (sz:=sz) (vals:=vs) (List.getElem?_concat_length ..) (Nat.le_refl _) (by simp) (by rw[List.drop_zero,List.take_of_length_le (by omega)]) hu) ⟨rfl,rfl⟩
theorem Rep.nil_list {c:Cx} {sz:Nat} {v:Value} (h:Rep c .nil v):Rep c (.list sz []) v:=by
 simp only[Rep] at h ⊢
 exact⟨none,0,h,Nat.le_refl _,Nat.zero_le _,.inl trivial⟩
theorem Rw.cells_len (r:Rw):r.cells.length=9:=by simp[Rw.cells,Ex.cells_len]
theorem Rw.cells_take (r:Rw):r.cells.take 9=r.cells:=List.take_of_length_le (by rw[r.cells_len];exact Nat.le_refl _)
theorem rwCells_map (l:List Rw):rwCells l=l.map Rw.sv:=rfl
attribute [go_sem] Nd.cells_len Rw.cells_len Rw.cells_take
theorem idxP_any {α:Type} (p:α→Bool) (l:List α):(match l.findIdx? p with|some i=>decide (0≤(i:Int))|none=>false)=l.any p:=by
 cases h:l.findIdx? p with
 |none=>rw[List.findIdx?_eq_none_iff] at h;simp only;symm;rw[List.any_eq_false];intro x hx;simp[h x hx]
 |some i=>
  obtain⟨hi,hp,_⟩:=List.findIdx?_eq_some_iff_getElem.1 h
  have:(0:Int)≤i:=by omega
  simp only[this,decide_true]
  symm;rw[List.any_eq_true]
  exact⟨_,List.getElem_mem hi,hp⟩
theorem anyNd_ok (G:Gl) (hG:GClosed G) (f:SV) (p:Nd→Bool) (V:List Nd) (H:List Blk) (hl:V.length<1125899906842624) (hfu:f.under H.length=true)
 (hf:∀ x∈V,ACallV Tryd.prog G f [x.sv] H (fun r H'=>H'=H∧r= .bool (p x))):
 ACall Tryd.prog G 22 [.list 6 (ndCells V),f] H (fun r H'=>H'=H∧r= .bool (V.any p)):=by
 have hidx:ACall Tryd.prog G 41 [.list 6 (ndCells V),f] H (fun r H'=>H'=H∧r= .int .i64 (match V.findIdx? p with|some i=>(i:Int)|none=> -1)):=by
  have hlm:(ndCells V).length=V.length:=by rw[ndCells_map,List.length_map]
  refine ACall.of_go TB [] tabOK _ Tryd.func41 rfl (by decide) Tryd.ntmps41 (by simp) rfl (by simp only[initEnv,Nat.reduceAdd];rfl) fun C R' hR hC hcl hB=>?_;have X:=noX;have hC':=congrArg List.length hC
  have X:=And.intro X hlm
  have hcl1:=hcl
  (refine run ?_;with_reducible repeat' first|exact trivial|(apply Fork.mk<;>intro hb)|apply Two.mk)
  refine go_loop (fun k:Nat=>[(0,.list 6 (ndCells V)),(1,f),(7,.int .i64 V.length),(8,.int .i64 k)]) (fun _=>H) (fun k=>V.length - k) (fun k=>k≤V.length∧∀ x∈V.take k,p x=false) 0 ⟨Nat.zero_le _,by simp⟩ (Wk.sub (by simp[subEnv,look])) ?_
  rintro K k ⟨hk,hno⟩ hK
  rcases Nat.lt_or_ge k V.length with hlt|hge
  ·have e1:(ndCells V)[k]? =some (.agg V[k].cells):=by simp[ndCells_map,hlt,Nd.sv]
   have hfk:=hf V[k] (List.getElem_mem hlt)
   have hsv:V[k].sv= .agg V[k].cells:=rfl
   rw[hsv] at hfk
   have X:=And.intro X e1
   (refine run ?_;with_reducible repeat' first|exact trivial|(apply Fork.mk<;>intro hb)|apply Two.mk)
   refine callV hfk ?_
   rintro r H' ⟨rfl,rfl⟩
   (refine run ?_;with_reducible repeat' first|exact trivial|(apply Fork.mk<;>intro hb)|apply Two.mk)
   ·have hfi:V.findIdx? p=some k:=by
     rw[List.findIdx?_eq_some_iff_getElem]
     refine⟨hlt,by simpa using hb,fun j hj=>?_⟩
     have:=hno (V[j]'(by omega)) (by rw[List.mem_take_iff_getElem];exact⟨j,by omega,rfl⟩)
     simp[this]
    refine Fin.out hR ⟨rfl,?_⟩
    simp only[resSV,hfi]
   ·refine hK _ _ (k+1) (by omega) ⟨by omega,?_⟩ (Wk.sub (by simp[subEnv,look]))
    rw[List.take_succ_eq_append_getElem hlt]
    intro x hx
    rcases List.mem_append.1 hx with hx|hx
    ·exact hno x hx
    ·rw[List.mem_singleton.1 hx];exact hb
  ·have:k=V.length:=by omega
   subst this
   clear hK
   have X:=And.intro X (Int.lt_irrefl (V.length:Int))
   (refine run ?_;with_reducible repeat' first|exact trivial|(apply Fork.mk<;>intro hb)|apply Two.mk)
   have hfi:V.findIdx? p=none:=by rw[List.findIdx?_eq_none_iff];rw[List.take_length] at hno;exact hno
   refine Fin.out hR ⟨rfl,?_⟩
   simp only[resSV,hfi]
 have h2:=idxP_any p V
 generalize hI:(match V.findIdx? p with|some i=>(i:Int)|none=> -1)=I at hidx
 refine ACall.of_go TB [] tabOK _ Tryd.func22 rfl (by decide) Tryd.ntmps22 (by simp) rfl (by simp only[initEnv,Nat.reduceAdd];rfl) fun C R' hR hC hcl hB=>?_;have X:=noX;have hC':=congrArg List.length hC
 (refine run ?_;with_reducible repeat' first|exact trivial|(apply Fork.mk<;>intro hb)|apply Two.mk)
 refine callS hidx ?_
 rintro r H' ⟨rfl,rfl⟩
 (refine run ?_;with_reducible repeat' first|exact trivial|(apply Fork.mk<;>intro hb)|apply Two.mk)
 refine Fin.out hR ⟨rfl,?_⟩
 rw[← h2,← hI]
 simp only[resSV]
 cases V.findIdx? p with
 |none=>rfl
 |some i=>rfl
theorem anyRw_ok (G:Gl) (hG:GClosed G) (f:SV) (p:Rw→Bool) (V:List Rw) (H:List Blk) (hl:V.length<1125899906842624) (hfu:f.under H.length=true)
 (hf:∀ x∈V,ACallV Tryd.prog G f [x.sv] H (fun r H'=>H'=H∧r= .bool (p x))):
 ACall Tryd.prog G 25 [.list 9 (rwCells V),f] H (fun r H'=>H'=H∧r= .bool (V.any p)):=by
 have hidx:ACall Tryd.prog G 43 [.list 9 (rwCells V),f] H (fun r H'=>H'=H∧r= .int .i64 (match V.findIdx? p with|some i=>(i:Int)|none=> -1)):=by
  have hlm:(rwCells V).length=V.length:=by rw[rwCells_map,List.length_map]
  refine ACall.of_go TB [] tabOK _ Tryd.func43 rfl (by decide) Tryd.ntmps43 (by simp) rfl (by simp only[initEnv,Nat.reduceAdd];rfl) fun C R' hR hC hcl hB=>?_;have X:=noX;have hC':=congrArg List.length hC
  have X:=And.intro X hlm
  have hcl1:=hcl
  (refine run ?_;with_reducible repeat' first|exact trivial|(apply Fork.mk<;>intro hb)|apply Two.mk)
  refine go_loop (fun k:Nat=>[(0,.list 9 (rwCells V)),(1,f),(7,.int .i64 V.length),(8,.int .i64 k)]) (fun _=>H) (fun k=>V.length - k) (fun k=>k≤V.length∧∀ x∈V.take k,p x=false) 0 ⟨Nat.zero_le _,by simp⟩ (Wk.sub (by simp[subEnv,look])) ?_
  rintro K k ⟨hk,hno⟩ hK
  rcases Nat.lt_or_ge k V.length with hlt|hge
  ·have e1:(rwCells V)[k]? =some (.agg V[k].cells):=by simp[rwCells_map,hlt,Rw.sv]
   have hfk:=hf V[k] (List.getElem_mem hlt)
   have hsv:V[k].sv= .agg V[k].cells:=rfl
   rw[hsv] at hfk
   have X:=And.intro X e1
   (refine run ?_;with_reducible repeat' first|exact trivial|(apply Fork.mk<;>intro hb)|apply Two.mk)
   refine callV hfk ?_
   rintro r H' ⟨rfl,rfl⟩
   (refine run ?_;with_reducible repeat' first|exact trivial|(apply Fork.mk<;>intro hb)|apply Two.mk)
   ·have hfi:V.findIdx? p=some k:=by
     rw[List.findIdx?_eq_some_iff_getElem]
     refine⟨hlt,by simpa using hb,fun j hj=>?_⟩
     have:=hno (V[j]'(by omega)) (by rw[List.mem_take_iff_getElem];exact⟨j,by omega,rfl⟩)
     simp[this]
    refine Fin.out hR ⟨rfl,?_⟩
    simp only[resSV,hfi]
   ·refine hK _ _ (k+1) (by omega) ⟨by omega,?_⟩ (Wk.sub (by simp[subEnv,look]))
    rw[List.take_succ_eq_append_getElem hlt]
    intro x hx
    rcases List.mem_append.1 hx with hx|hx
    ·exact hno x hx
    ·rw[List.mem_singleton.1 hx];exact hb
  ·have:k=V.length:=by omega
   subst this
   clear hK
   have X:=And.intro X (Int.lt_irrefl (V.length:Int))
   (refine run ?_;with_reducible repeat' first|exact trivial|(apply Fork.mk<;>intro hb)|apply Two.mk)
   have hfi:V.findIdx? p=none:=by rw[List.findIdx?_eq_none_iff];rw[List.take_length] at hno;exact hno
   refine Fin.out hR ⟨rfl,?_⟩
   simp only[resSV,hfi]
 have h2:=idxP_any p V
 generalize hI:(match V.findIdx? p with|some i=>(i:Int)|none=> -1)=I at hidx
 refine ACall.of_go TB [] tabOK _ Tryd.func25 rfl (by decide) Tryd.ntmps25 (by simp) rfl (by simp only[initEnv,Nat.reduceAdd];rfl) fun C R' hR hC hcl hB=>?_;have X:=noX;have hC':=congrArg List.length hC
 (refine run ?_;with_reducible repeat' first|exact trivial|(apply Fork.mk<;>intro hb)|apply Two.mk)
 refine callS hidx ?_
 rintro r H' ⟨rfl,rfl⟩
 (refine run ?_;with_reducible repeat' first|exact trivial|(apply Fork.mk<;>intro hb)|apply Two.mk)
 refine Fin.out hR ⟨rfl,?_⟩
 rw[← h2,← hI]
 simp only[resSV]
 cases V.findIdx? p with
 |none=>rfl
 |some i=>rfl
def msrN (l:List Nd):Nat:=(l.map Nd.msr).sum
def RightN (t:Tb) (ps:List Nd):Prop:=∀ p∈ps,p.msr+1<2147483648∧(rgtF t (p.msr+1) p).1=true
def RowC (G:Gl) (t:Tb) (mb tb ca la:Nat) (way:Ex) (ps:List Nd):Prop:=∀ (cs:List Str) (body:Ex) (H:List Blk) (n:Int),ps.length=cs.length→ps.length<4294967296→RightN t ps→MkAt H t mb tb ca la→0≤n→n+101*msrN ps≤1152921504606846976→
 ACall Tryd.prog G 45 [.ptr mb 0 0 0,.list 6 (ndCells ps),.list 1 (cs.map .str),.agg way.cells,.agg body.cells] (H.set mb (mkC tb n)) (fun r H'=>H'=H.set mb (mkC tb (rowF t way ps cs body n).2)∧r= .agg (rowF t way ps cs body n).1.cells)
theorem strs_takeAll (l:List Str):List.take l.length (l.map SV.str)=l.map SV.str:=List.take_of_length_le (by simp)
theorem cl59_ok (G:Gl) (hG:GClosed G) (t:Tb) (mb tb ca la:Nat) (way body:Ex) (p:Nd) (c:Str) (ps:List Nd) (cs:List Str) (ih:RowC G t mb tb ca la way ps) (K:List Blk) (hM:MkAt K t mb tb ca la) (b1 b2 b3 b4 b5:Nat)
 (h1:K[b1]? =some (.cells 0 1 [.ptr mb 0 0 0])) (h2:K[b2]? =some (.cells 0 1 [.list 6 (ndCells (p::ps))])) (h3:K[b3]? =some (.cells 0 1 [.list 1 ((c::cs).map .str)])) (h4:K[b4]? =some (.cells 0 8 [.agg way.cells])) (h5:K[b5]? =some (.cells 0 8 [.agg body.cells]))
 (hn:mb≠b1∧mb≠b2∧mb≠b3∧mb≠b4∧mb≠b5) (hl:ps.length=cs.length) (hl2:ps.length<4294967295) (hr:RightN t ps) (n:Int) (h0:0≤n) (hlim:n+101*msrN ps≤1152921504606846976):
 ACall Tryd.prog G 59 [.ptr b1 0 0 0,.ptr b2 0 0 0,.ptr b3 0 0 0,.ptr b4 0 0 0,.ptr b5 0 0 0] (K.set mb (mkC tb n)) (fun r H'=>H'=K.set mb (mkC tb (rowF t way ps cs body n).2)∧r= .agg (rowF t way ps cs body n).1.cells):=by
 obtain⟨x1,x2,x3⟩:=hM.X
 have hmb:=hM.m
 obtain⟨y1,y2,y3⟩:=set_get h1 hn.1
 obtain⟨z1,z2,z3⟩:=set_get h2 hn.2.1
 obtain⟨w1,w2,w3⟩:=set_get h3 hn.2.2.1
 obtain⟨v1,v2,v3⟩:=set_get h4 hn.2.2.2.1
 obtain⟨u1,u2,u3⟩:=set_get h5 hn.2.2.2.2
 have hc:ACall Tryd.prog G 45 [.ptr mb 0 0 0,.list 6 (ndCells ps),.list 1 (cs.map .str),.agg way.cells,.agg body.cells] (K.set mb (mkC tb n)++[Blk.cells 0 8 [.agg [.int .i64 0,.str [],.int .i64 0,.int .i64 0,.list 1 [],.list 8 [],.list 9 [],.list 12 []]]]) (fun r H'=>H'=K.set mb (mkC tb (rowF t way ps cs body n).2)++[Blk.cells 0 8 [.agg [.int .i64 0,.str [],.int .i64 0,.int .i64 0,.list 1 [],.list 8 [],.list 9 [],.list 12 []]]]∧r= .agg (rowF t way ps cs body n).1.cells):=by
  have:=ih cs body (K++[Blk.cells 0 8 [.agg [.int .i64 0,.str [],.int .i64 0,.int .i64 0,.list 1 [],.list 8 [],.list 9 [],.list 12 []]]]) n hl (by omega) hr (hM.app _) h0 hlim
  simpa only[List.set_append_left _ _ hmb] using this
 have hR1:=(rowF t way ps cs body n).1.cells_under K.length
 have hR2:=(rowF t way ps cs body n).1.cells_len
 generalize rowF t way ps cs body n=R1 at*
 obtain⟨r1,n1⟩:=R1
 simp only at hc hR1 hR2
 simp only[ndCells,List.map_cons] at z1 z2 w1 w2
 have q1:(ndCells ps).length=ps.length:=ndCells_len ps
 have q2:(cs.map SV.str).length=ps.length:=by simp[hl]
 have q3:List.take (ps.length+1 - 1) (ndCells ps)=ndCells ps:=ndCells_takeAll ps
 have q4:List.take (ps.length+1 - 1) (cs.map SV.str)=cs.map SV.str:=by rw[hl];exact strs_takeAll cs
 have e1:=way.cells_len
 have e2:=way.cells_take
 have e3:=body.cells_len
 have e4:=body.cells_take
 generalize ndCells ps=PS at*
 generalize cs.map SV.str=CS at*
 refine ACall.of_go TB [] tabOK _ Tryd.func59 rfl (by decide) Tryd.ntmps59 (by simp) rfl (by simp only[initEnv,Nat.reduceAdd];rfl) fun C R' hR hC hcl hB=>?_;have X:=noX;have hC':=congrArg List.length hC
 have hcl2:=closed_mk hM hcl
 have hC2:C.H.length=K.length:=by rw[hC,x2]
 have X:=And.intro X (And.intro y2 (And.intro z2 (And.intro w2 (And.intro v2 (And.intro u2 (And.intro y1 (And.intro z1 (And.intro w1 (And.intro v1 (And.intro u1 (And.intro x2 (And.intro q1 (And.intro q2 (And.intro q3 (And.intro q4 (And.intro e1 (And.intro e2 (And.intro e3 (And.intro e4 hR2)))))))))))))))))))
 (refine run ?_;with_reducible repeat' first|exact trivial|(apply Fork.mk<;>intro hb)|apply Two.mk)
 refine xcallS hc ?_
 rintro r H' ⟨rfl,rfl⟩
 (refine run ?_;with_reducible repeat' first|exact trivial|(apply Fork.mk<;>intro hb)|apply Two.mk)
 exact finS (n0:=K.length) hR hC2 (hcl2 _) (.same _ (by simp[resSV,SV.under,hR1])) ⟨rfl,rfl⟩ (hn:=x2 _)
theorem row_ok (G:Gl) (hG:GClosed G) (C0:Cx) (hb0:G.base=some C0) (hL:LibAt C0) (t:Tb) (har:∀ c∈t.cons,c.arity≤100) (mb tb ca la:Nat) (way:Ex):∀ ps:List Nd,RowC G t mb tb ca la way ps
 |[],[],body,H,n,_,_,_,hM,h0,hn=>by
  obtain⟨x1,x2,x3⟩:=hM.X
  have e3:=body.cells_len
  have e4:=body.cells_take
  have e5:=body.cells_under H.length
  simp only[ndCells,List.map_nil,rowF]
  refine ACall.of_go TB [] tabOK _ Tryd.func45 rfl (by decide) Tryd.ntmps45 (by simp) rfl (by simp only[initEnv,Nat.reduceAdd];rfl) fun C R' hR hC hcl hB=>?_;have X:=noX;have hC':=congrArg List.length hC
  have hcl2:=closed_mk hM hcl
  have hC2:C.H.length=H.length:=by rw[hC,x2]
  have X:=And.intro X (And.intro x2 (And.intro e3 e4))
  (refine run ?_;with_reducible repeat' first|exact trivial|(apply Fork.mk<;>intro hb)|apply Two.mk)
  exact finS (n0:=H.length) hR hC2 (hcl2 _) (.same _ (by simp[resSV,SV.under,e5])) ⟨rfl,rfl⟩ (hn:=x2 _)
 |p::ps,c::cs,body,H,n,hl,hl2,hr,hM,h0,hn=>by
  have ih:=row_ok G hG C0 hb0 hL t har mb tb ca la way ps
  obtain⟨x1,x2,x3⟩:=hM.X
  have hmb:=hM.m
  obtain⟨r1,r2⟩:=hr p (List.mem_cons_self ..)
  have hr':RightN t ps:=fun q hq=>hr q (List.mem_cons_of_mem _ hq)
  simp only[List.length_cons,Nat.add_right_cancel_iff] at hl hl2
  have hmn:msrN (p::ps)=p.msr+msrN ps:=by simp[msrN]
  rw[hmn] at hn
  have hc:ACall Tryd.prog G 58 [.ptr mb 0 0 0,.agg p.cells,.str c,.agg way.cells,.fn (.func 59) [] [.ptr H.length 0 0 0,.ptr (H.length+1) 0 0 0,.ptr (H.length+2) 0 0 0,.ptr (H.length+3) 0 0 0,.ptr (H.length+4) 0 0 0]] (H.set mb (mkC tb n)++[Blk.cells 0 1 [.ptr mb 0 0 0],Blk.cells 0 1 [.list 6 (ndCells (p::ps))],Blk.cells 0 1 [.list 1 ((c::cs).map .str)],Blk.cells 0 8 [.agg way.cells],Blk.cells 0 8 [.agg body.cells],Blk.cells 0 8 [.agg [.int .i64 0,.str [],.int .i64 0,.int .i64 0,.list 1 [],.list 8 [],.list 9 [],.list 12 []]]]) (fun r H'=>H'=H.set mb (mkC tb (rowF t way (p::ps) (c::cs) body n).2)++[Blk.cells 0 1 [.ptr mb 0 0 0],Blk.cells 0 1 [.list 6 (ndCells (p::ps))],Blk.cells 0 1 [.list 1 ((c::cs).map .str)],Blk.cells 0 8 [.agg way.cells],Blk.cells 0 8 [.agg body.cells],Blk.cells 0 8 [.agg [.int .i64 0,.str [],.int .i64 0,.int .i64 0,.list 1 [],.list 8 [],.list 9 [],.list 12 []]]]∧r= .agg (rowF t way (p::ps) (c::cs) body n).1.cells):=by
   have:=mat_ok G hG C0 hb0 hL t har mb tb ca la way (p.msr+1) p c (rowF t way ps cs body) 59 [.ptr H.length 0 0 0,.ptr (H.length+1) 0 0 0,.ptr (H.length+2) 0 0 0,.ptr (H.length+3) 0 0 0,.ptr (H.length+4) 0 0 0] (H++[Blk.cells 0 1 [.ptr mb 0 0 0],Blk.cells 0 1 [.list 6 (ndCells (p::ps))],Blk.cells 0 1 [.list 1 ((c::cs).map .str)],Blk.cells 0 8 [.agg way.cells],Blk.cells 0 8 [.agg body.cells],Blk.cells 0 8 [.agg [.int .i64 0,.str [],.int .i64 0,.int .i64 0,.list 1 [],.list 8 [],.list 9 [],.list 12 []]]]) (1152921504606846976 - 101*msrN ps) n (Nat.lt_succ_self _) r1 r2 (hM.app _) (fun n' L a1 a2=>by
    have hcl:=cl59_ok G hG t mb tb ca la way body p c ps cs ih ((H++[Blk.cells 0 1 [.ptr mb 0 0 0],Blk.cells 0 1 [.list 6 (ndCells (p::ps))],Blk.cells 0 1 [.list 1 ((c::cs).map .str)],Blk.cells 0 8 [.agg way.cells],Blk.cells 0 8 [.agg body.cells],Blk.cells 0 8 [.agg [.int .i64 0,.str [],.int .i64 0,.int .i64 0,.list 1 [],.list 8 [],.list 9 [],.list 12 []]]])++L) ((hM.app _).app L) H.length (H.length+1) (H.length+2) (H.length+3) (H.length+4) (by rw[List.append_assoc,get_app0];rfl) (by rw[List.append_assoc,get_app];rfl) (by rw[List.append_assoc,get_app];rfl) (by rw[List.append_assoc,get_app];rfl) (by rw[List.append_assoc,get_app];rfl) (by omega) hl (by omega) hr' n' a1 (by omega)
    rw[List.set_append_left _ _ (by rw[List.length_append];omega)] at hcl
    have hcl:=hcl.mono (R':=fun r H'=>H'=(H++[Blk.cells 0 1 [.ptr mb 0 0 0],Blk.cells 0 1 [.list 6 (ndCells (p::ps))],Blk.cells 0 1 [.list 1 ((c::cs).map .str)],Blk.cells 0 8 [.agg way.cells],Blk.cells 0 8 [.agg body.cells],Blk.cells 0 8 [.agg [.int .i64 0,.str [],.int .i64 0,.int .i64 0,.list 1 [],.list 8 [],.list 9 [],.list 12 []]]]).set mb (mkC tb (rowF t way ps cs body n').2)++L∧r= .agg (rowF t way ps cs body n').1.cells) fun r H' k=>⟨by rw[k.1,List.set_append_left _ _ (by rw[List.length_append];omega)],k.2⟩
    exact ACallV.of hcl) (by simp[SV.underL,SV.under]) (by omega) h0 (by omega)
   rw[show rowF t way (p::ps) (c::cs) body n=matF t way (p.msr+1) p c (rowF t way ps cs body) n from by rw[rowF]]
   simpa only[List.set_append_left _ _ hmb] using this
  have hR1:=(rowF t way (p::ps) (c::cs) body n).1.cells_under H.length
  have hR2:=(rowF t way (p::ps) (c::cs) body n).1.cells_len
  generalize rowF t way (p::ps) (c::cs) body n=R1 at*
  obtain⟨q1,n1⟩:=R1
  simp only at hc hR1 hR2
  simp only[ndCells,List.map_cons] at hc ⊢
  have e1:=way.cells_len
  have e2:=way.cells_take
  have e3:=body.cells_len
  have e4:=body.cells_take
  have e5:=p.cells_len
  have e6:=p.cells_take
  have q2:(ndCells ps).length=ps.length:=ndCells_len ps
  have q3:(cs.map SV.str).length=ps.length:=by simp[hl]
  generalize ndCells ps=PS at*
  generalize cs.map SV.str=CS at*
  refine ACall.of_go TB [] tabOK _ Tryd.func45 rfl (by decide) Tryd.ntmps45 (by simp) rfl (by simp only[initEnv,Nat.reduceAdd];rfl) fun C R' hR hC hcl hB=>?_;have X:=noX;have hC':=congrArg List.length hC
  have hcl2:=closed_mk hM hcl
  have hC2:C.H.length=H.length:=by rw[hC,x2]
  have X:=And.intro X (And.intro x2 (And.intro e1 (And.intro e2 (And.intro e3 (And.intro e4 (And.intro e5 (And.intro e6 (And.intro q2 (And.intro q3 hR2)))))))))
  (refine run ?_;with_reducible repeat' first|exact trivial|(apply Fork.mk<;>intro hb)|apply Two.mk)
  refine xcallS hc ?_
  rintro r H' ⟨rfl,rfl⟩
  (refine run ?_;with_reducible repeat' first|exact trivial|(apply Fork.mk<;>intro hb)|apply Two.mk)
  exact finS (n0:=H.length) hR hC2 (hcl2 _) (.same _ (by simp[resSV,SV.under,hR1])) ⟨rfl,rfl⟩ (hn:=x2 _)
 |[],_::_,_,_,_,h,_,_,_,_,_=>by cases h
 |_::_,[],_,_,_,h,_,_,_,_,_=>by cases h
def cntR (rs:List Rw):Nat:=(rs.map fun r=>2+101*msrN r.pats).sum
def RowsOK (t:Tb) (cols:List Str) (rs:List Rw):Prop:=∀ r∈rs,r.pats.length=cols.length∧RightN t r.pats∧r.body.wt<2147483648
def RowsC (G:Gl) (t:Tb) (mb tb ca la:Nat) (cols:List Str) (rs:List Rw):Prop:=∀ (H:List Blk) (n:Int),cols.length<4294967296→rs.length<4294967296→RowsOK t cols rs→MkAt H t mb tb ca la→0≤n→n+cntR rs≤1152921504606846976→
 ACall Tryd.prog G 26 [.ptr mb 0 0 0,.list 1 (cols.map .str),.list 9 (rwCells rs)] (H.set mb (mkC tb n)) (fun r H'=>H'=H.set mb (mkC tb (rowsF t cols rs n).2)∧r= .agg (rowsF t cols rs n).1.cells)
theorem freeS_len (e:Ex):(freeS e).length≤e.wt:=by
 have:=unb_len e.wt e ([],[])
 rw[freeS,sortS_len]
 simpa using this
theorem free_list (G:Gl) (hG:GClosed G) (e:Ex) (hw:e.wt<549755813888) (H:List Blk):ACall Tryd.prog G 8 [.agg e.cells] H (fun r H'=>H'=H∧r= .list 1 ((freeS e).map .str)):=
 ACall.frz (SV.underL_map fun _ _=>rfl) (by simp) (free_ok G hG e H hw)
theorem sure_cl (G:Gl) (hG:GClosed G) (t:Tb) (mb tb ca la:Nat) (K:List Blk) (hM:MkAt K t mb tb ca la) (b:Nat) (hb:K[b]? =some (.cells 0 1 [.ptr mb 0 0 0])) (hne:mb≠b) (p:Nd) (hp:p.msr+1<2147483648) (n:Int):
 ACall Tryd.prog G 44 [.agg p.cells,.ptr b 0 0 0] (K.set mb (mkC tb n)) (fun r H'=>H'=K.set mb (mkC tb n)∧r= .bool (!(rgtF t (p.msr+1) p).2)):=by
 obtain⟨x1,x2,x3⟩:=hM.X
 have hmb:=hM.m
 obtain⟨y1,y2,y3⟩:=set_get hb hne
 have c1:=fun L=>right_ok2 G hG t (p.msr+1) tb ca la p (K.set mb (mkC tb n)++L) (Nat.lt_succ_self _) hp (hM.TT _ L)
 have e5:=p.cells_len
 have e6:=p.cells_take
 have u1:=p.cells_under K.length
 have x4:(K.set mb (mkC tb n))[mb]? =some (mkC tb n):=List.getElem?_set_self hmb
 generalize rgtF t (p.msr+1) p=F at*
 simp only[mkC] at*
 refine ACall.of_go TB [] tabOK _ Tryd.func44 rfl (by decide) Tryd.ntmps44 (by simp) rfl (by simp only[initEnv,Nat.reduceAdd];rfl) fun C R' hR hC hcl hB=>?_;have X:=noX;have hC':=congrArg List.length hC
 have hC2:C.H.length=K.length:=by rw[hC,x2]
 have X:=And.intro X (And.intro y2 (And.intro y1 (And.intro (x1 (.cells 0 2 [.agg [.ptr tb 0 0 0,.int .i64 n]])) (And.intro x4 (And.intro x2 (And.intro e5 (And.intro e6 hmb)))))))
 (refine run ?_;with_reducible repeat' first|exact trivial|(apply Fork.mk<;>intro hb)|apply Two.mk)
 exact finS (n0:=K.length) hR hC2 hcl (.same _ rfl) ⟨rfl,rfl⟩ (hn:=x2 _)
theorem rows_closed (G:Gl) (hG:GClosed G) (C0:Cx) (hb0:G.base=some C0) (hL:LibAt C0) (t:Tb) (har:∀ c∈t.cons,c.arity≤100) (mb tb ca la:Nat) (cols:List Str) (ps:List Nd) (body:Ex) (rs:List Rw) (H:List Blk) (n:Int) (hcl0:cols.length<4294967296) (hrl:rs.length<4294967295) (hp1:ps.length=cols.length) (hp2:RightN t ps) (hbw:body.wt<2147483648) (hM:MkAt H t mb tb ca la) (h0:0≤n) (hn:n+101*msrN ps≤1152921504606846976) (ho:openR t ⟨ps,body⟩=false):
 ACall Tryd.prog G 26 [.ptr mb 0 0 0,.list 1 (cols.map .str),.list 9 (.agg (.list 6 (ndCells ps)::body.cells)::rwCells rs)] (H.set mb (mkC tb n)) (fun r H'=>H'=H.set mb (mkC tb (rowF t emptyE ps cols body n).2)∧r= .agg (rowF t emptyE ps cols body n).1.cells):=by
 obtain⟨x1,x2,x3⟩:=hM.X
 have hmb:=hM.m
 simp only[openR,Bool.or_eq_false_iff] at ho
 obtain⟨ho1,ho2⟩:=ho
 have c1:=fun H2=>free_list G hG body (by omega) H2
 have c2:=fun H2=>contains_list G (freeS body) nextN H2 (by have:=freeS_len body;omega)
 rw[ho1] at c2
 have c3:=anyNd_ok G hG (.fn (.func 44) [] [.ptr H.length 0 0 0]) (fun p=>!(rgtF t (p.msr+1) p).2) ps (H.set mb (mkC tb n)++[Blk.cells 0 1 [.ptr mb 0 0 0],Blk.cells 0 8 [.agg [.int .i64 0,.str [],.int .i64 0,.int .i64 0,.list 1 [],.list 8 [],.list 9 [],.list 12 []]],Blk.cells 0 9 [.agg (.list 6 (ndCells ps)::body.cells)]]) (by omega) (by simp[SV.under,SV.underL,x2]) (fun p hp=>ACallV.of (by
  have:=sure_cl G hG t mb tb ca la (H++[Blk.cells 0 1 [.ptr mb 0 0 0],Blk.cells 0 8 [.agg [.int .i64 0,.str [],.int .i64 0,.int .i64 0,.list 1 [],.list 8 [],.list 9 [],.list 12 []]],Blk.cells 0 9 [.agg (.list 6 (ndCells ps)::body.cells)]]) (hM.app _) H.length (by rw[get_app0];rfl) (by omega) p (hp2 p hp).1 n
  simp only[List.set_append_left _ _ hmb] at this
  exact this))
 rw[ho2] at c3
 have c4:ACall Tryd.prog G 45 [.ptr mb 0 0 0,.list 6 (ndCells ps),.list 1 (cols.map .str),.agg emptyE.cells,.agg body.cells] (H.set mb (mkC tb n)++[Blk.cells 0 1 [.ptr mb 0 0 0],Blk.cells 0 8 [.agg [.int .i64 0,.str [],.int .i64 0,.int .i64 0,.list 1 [],.list 8 [],.list 9 [],.list 12 []]],Blk.cells 0 9 [.agg (.list 6 (ndCells ps)::body.cells)]]) (fun r H'=>H'=H.set mb (mkC tb (rowF t emptyE ps cols body n).2)++[Blk.cells 0 1 [.ptr mb 0 0 0],Blk.cells 0 8 [.agg [.int .i64 0,.str [],.int .i64 0,.int .i64 0,.list 1 [],.list 8 [],.list 9 [],.list 12 []]],Blk.cells 0 9 [.agg (.list 6 (ndCells ps)::body.cells)]]∧r= .agg (rowF t emptyE ps cols body n).1.cells):=by
  have:=row_ok G hG C0 hb0 hL t har mb tb ca la emptyE ps cols body (H++[Blk.cells 0 1 [.ptr mb 0 0 0],Blk.cells 0 8 [.agg [.int .i64 0,.str [],.int .i64 0,.int .i64 0,.list 1 [],.list 8 [],.list 9 [],.list 12 []]],Blk.cells 0 9 [.agg (.list 6 (ndCells ps)::body.cells)]]) n hp1 (by omega) hp2 (hM.app _) h0 hn
  simpa only[List.set_append_left _ _ hmb] using this
 have hR1:=(rowF t emptyE ps cols body n).1.cells_under H.length
 have hR2:=(rowF t emptyE ps cols body n).1.cells_len
 generalize rowF t emptyE ps cols body n=R1 at*
 obtain⟨r1,n1⟩:=R1
 simp only at c4 hR1 hR2
 simp only[emptyE,Ex.cells,exCells,bdCells,alCells,List.map_nil,nextN] at c4 c2
 have e3:=body.cells_len
 have e4:=body.cells_take
 have q1:=rwCells_len rs
 generalize rwCells rs=RS at*
 generalize ndCells ps=PS at*
 generalize cols.map SV.str=CS at*
 refine ACall.of_go TB [] tabOK _ Tryd.func26 rfl (by decide) Tryd.ntmps26 (by simp) rfl (by simp only[initEnv,Nat.reduceAdd];rfl) fun C R' hR hC hcl hB=>?_;have X:=noX;have hC':=congrArg List.length hC
 have hcl2:=closed_mk hM hcl
 have hC2:C.H.length=H.length:=by rw[hC,x2]
 have X:=And.intro X (And.intro x2 (And.intro e3 (And.intro e4 (And.intro q1 (And.intro hR2 (show ¬ ((rs.length+1:Nat):Int)=0 by omega))))))
 (refine run ?_;with_reducible repeat' first|exact trivial|(apply Fork.mk<;>intro hb)|apply Two.mk)
 exact finS (n0:=H.length) hR hC2 (hcl2 _) (.same _ (by simp[resSV,SV.under,hR1])) ⟨rfl,rfl⟩ (hn:=x2 _)
theorem frmF_le {t:Tb} {way:Ex} {f:Nat} {fields:List Str} {rest:Rst} {k:Nat} (hk:∀ n,n≤(rest n).2∧(rest n).2≤n+k):∀ {l:List Pt},
 (∀ q∈l,∀ (col:Str) (rest:Rst) (k:Nat),(∀ n,n≤(rest n).2∧(rest n).2≤n+k)→∀ n,n≤(matF t way f q.pat col rest n).2∧(matF t way f q.pat col rest n).2≤n+k+101*q.pat.msr)→
 ∀ n,n≤(frmF (matF t way f) fields rest l n).2∧(frmF (matF t way f) fields rest l n).2≤n+k+101*msrL l
 |[],_,n=>by have:=hk n;simp only[frmF,msrL,List.map_nil,List.sum_nil];omega
 |q::r,h,n=>by
  have ih:=frmF_le (fields:=fields) hk (l:=r) (fun q hq=>h q (List.mem_cons_of_mem _ hq))
  have:=h q (List.mem_cons_self ..) (fields.getD q.place.toNat []) (frmF (matF t way f) fields rest r) (k+101*msrL r) (fun n=>by have:=ih n;omega) n
  rw[frmF]
  simp only[msrL,List.map_cons,List.sum_cons] at this ⊢
  omega
theorem matF_le {t:Tb} (har:∀ c∈t.cons,c.arity≤100) (way:Ex):∀ (f:Nat) (p:Nd),p.msr<f→(rgtF t f p).1=true→∀ (col:Str) (rest:Rst) (k:Nat),(∀ n,n≤(rest n).2∧(rest n).2≤n+k)→∀ n,n≤(matF t way f p col rest n).2∧(matF t way f p col rest n).2≤n+k+101*p.msr
 |0,p,h,_,_,_,_,_,_=>absurd h (by omega)
 |f+1,p,hm,hr,col,rest,k,hk,n=>by
  have hpos:2≤p.msr:=by rw[p.msr_eq];omega
  by_cases h43:p.kind=43
  ·rw[show matF t way (f+1) p col rest=rest by rw[matF,if_pos h43]]
   have:=hk n;omega
  by_cases h42:p.kind=42
  ·rw[show matF t way (f+1) p col rest=fun n=>(letE p.name (varE col) (rest n).1,(rest n).2) by rw[matF,if_neg h43,if_pos h42]]
   have:=hk n;simp only;omega
  by_cases h50:p.kind=50
  ·have hq:∃ q,p.subs=[q]∧(rgtF t f q).1=true:=by
    rw[rgtF,if_neg h43,if_neg h42,if_neg (by omega),if_pos h50] at hr
    split at hr
    ·rename_i q hq
     split at hr
     ·cases hr
     ·exact⟨q,hq,hr⟩
    ·cases hr
   obtain⟨q,hq,hr2⟩:=hq
   have hqm:q.msr+3≤p.msr:=by rw[p.msr_eq,hq];simp only[ndsMsr];omega
   rw[show matF t way (f+1) p col rest=fun n=>(letE p.name (varE col) (matF t way f q col rest n).1,(matF t way f q col rest n).2) by rw[matF,if_neg h43,if_neg h42,if_pos h50,hq]]
   have:=matF_le har way f q (by omega) hr2 col rest k hk n
   simp only;omega
  by_cases h44:p.kind=44
  ·rw[show matF t way (f+1) p col rest=fun n=>(ofE col (nmN n) [litA p.n (rest (n+1)).1,otherA way],(rest (n+1)).2) by rw[matF,if_neg h43,if_neg h42,if_neg h50,if_pos h44]]
   have:=hk (n+1);simp only;omega
  have hs:∃ s,shpF t p=some s∧∀ x∈s.parts,(rgtF t f x.pat).1=true:=by
   rw[rgtF,if_neg h43,if_neg h42,if_neg h44,if_neg h50] at hr
   cases hsh:shpF t p with
   |none=>rw[hsh] at hr;cases hr
   |some s=>rw[hsh] at hr;exact⟨s,rfl,rgtL_parts hr⟩
  obtain⟨s,hs,hparts⟩:=hs
  have hmf:matF t way (f+1) p col rest n=(ofE col (nmN n) (conA s.con.name (fldN s.con.arity.toNat (n+1)) (frmF (matF t way f) (fldN s.con.arity.toNat (n+1)) rest s.parts (n+1+s.con.arity.toNat)).1::if s.con.family=1 then [] else [otherA way]),(frmF (matF t way f) (fldN s.con.arity.toNat (n+1)) rest s.parts (n+1+s.con.arity.toNat)).2):=by
   rw[matF,if_neg h43,if_neg h42,if_neg h50,if_neg h44,hs]
  rw[hmf]
  have hsm:=shpF_msr hs
  have hml:=msrL_le s.parts
  have hK:=har _ (shpF_con hs)
  have:=frmF_le (t:=t) (way:=way) (f:=f) (fields:=fldN s.con.arity.toNat (n+1)) hk (l:=s.parts) (fun q hq col rest k hk n=>matF_le har way f q.pat (by have:=shpF_part hs hq;omega) (hparts q hq) col rest k hk n) (n+1+s.con.arity.toNat)
  simp only;omega
theorem rowF_le {t:Tb} (har:∀ c∈t.cons,c.arity≤100) (way:Ex):∀ (ps:List Nd) (cs:List Str) (body:Ex),RightN t ps→∀ n,n≤(rowF t way ps cs body n).2∧(rowF t way ps cs body n).2≤n+101*msrN ps
 |[],_,body,_,n=>by simp[rowF,msrN]
 |p::ps,[],body,_,n=>by simp only[rowF];omega
 |p::ps,c::cs,body,h,n=>by
  have ih:=rowF_le har way ps cs body (fun q hq=>h q (List.mem_cons_of_mem _ hq))
  obtain⟨_,h2⟩:=h p (List.mem_cons_self ..)
  have:=matF_le har way (p.msr+1) p (Nat.lt_succ_self _) h2 c (rowF t way ps cs body) (101*msrN ps) (fun n=>by have:=ih n;omega) n
  rw[rowF]
  simp only[msrN,List.map_cons,List.sum_cons] at this ⊢
  omega
theorem rowsF_le {t:Tb} (har:∀ c∈t.cons,c.arity≤100) (cols:List Str):∀ (rs:List Rw),RowsOK t cols rs→∀ n,n≤(rowsF t cols rs n).2∧(rowsF t cols rs n).2≤n+cntR rs
 |[],_,n=>by simp[rowsF,cntR]
 |r::rs,h,n=>by
  have ih:=rowsF_le har cols rs (fun q hq=>h q (List.mem_cons_of_mem _ hq)) (n+2)
  obtain⟨_,h2,_⟩:=h r (List.mem_cons_self ..)
  have e:cntR (r::rs)=2+101*msrN r.pats+cntR rs:=by simp[cntR]
  rw[rowsF]
  split
  ·have:=rowF_le har (appE (nmN n)) r.pats cols (repS nextN (appE (nmN n)) r.body) h2 (rowsF t cols rs (n+2)).2
   simp only;omega
  ·have:=rowF_le har emptyE r.pats cols r.body h2 n
   simp only;omega
theorem rows_open (G:Gl) (hG:GClosed G) (C0:Cx) (hb0:G.base=some C0) (hL:LibAt C0) (t:Tb) (har:∀ c∈t.cons,c.arity≤100) (mb tb ca la:Nat) (cols:List Str) (ps:List Nd) (body:Ex) (rs:List Rw) (H:List Blk) (n:Int) (hcl0:cols.length<4294967296) (hrl:rs.length<4294967295) (hp1:ps.length=cols.length) (hp2:RightN t ps) (hbw:body.wt<2147483648) (hM:MkAt H t mb tb ca la) (h0:0≤n) (ih:RowsC G t mb tb ca la cols rs) (hro:RowsOK t cols rs) (hn:n+cntR (⟨ps,body⟩::rs)≤1152921504606846976) (ho:openR t ⟨ps,body⟩=true) (O:Ex×Int) (hO:O=rowsF t cols rs (n+2)) (R1:Ex×Int) (hR1e:R1=rowF t (appE (nmN n)) ps cols (repS nextN (appE (nmN n)) body) O.2):
 ACall Tryd.prog G 26 [.ptr mb 0 0 0,.list 1 (cols.map .str),.list 9 (.agg (.list 6 (ndCells ps)::body.cells)::rwCells rs)] (H.set mb (mkC tb n)) (fun r H'=>H'=H.set mb (mkC tb R1.2)∧r= .agg (letE (nmN n) (lamE (nmN (n+1)) O.1) R1.1).cells):=by
 obtain⟨x1,x2,x3⟩:=hM.X
 have hmb:=hM.m
 have ecnt:cntR (⟨ps,body⟩::rs)=2+101*msrN ps+cntR rs:=by simp[cntR]
 have hle:=rowsF_le har cols rs hro (n+2)
 rw[← hO] at hle
 have c1:=fun H2=>free_list G hG body (by omega) H2
 have c2:=fun H2=>contains_list G (freeS body) nextN H2 (by have:=freeS_len body;omega)
 have c3:=anyNd_ok G hG (.fn (.func 44) [] [.ptr H.length 0 0 0]) (fun p=>!(rgtF t (p.msr+1) p).2) ps (H.set mb (mkC tb n)++[Blk.cells 0 1 [.ptr mb 0 0 0],Blk.cells 0 8 [.agg [.int .i64 0,.str [],.int .i64 0,.int .i64 0,.list 1 [],.list 8 [],.list 9 [],.list 12 []]],Blk.cells 0 9 [.agg (.list 6 (ndCells ps)::body.cells)]]) (by omega) (by simp[SV.under,SV.underL,x2]) (fun p hp=>ACallV.of (by
  have:=sure_cl G hG t mb tb ca la (H++[Blk.cells 0 1 [.ptr mb 0 0 0],Blk.cells 0 8 [.agg [.int .i64 0,.str [],.int .i64 0,.int .i64 0,.list 1 [],.list 8 [],.list 9 [],.list 12 []]],Blk.cells 0 9 [.agg (.list 6 (ndCells ps)::body.cells)]]) (hM.app _) H.length (by rw[get_app0];rfl) (by omega) p (hp2 p hp).1 n
  simp only[List.set_append_left _ _ hmb] at this
  exact this))
 have c2t:nextN∈freeS body→∀ H2,ACall Tryd.prog G 24 [.list 1 ((freeS body).map .str),.str nextN] H2 (fun r H'=>H'=H2∧r= .bool true):=fun hh H2=>by
  have:=c2 H2
  rwa[decide_eq_true hh] at this
 have c2f:nextN∉freeS body→∀ H2,ACall Tryd.prog G 24 [.list 1 ((freeS body).map .str),.str nextN] H2 (fun r H'=>H'=H2∧r= .bool false):=fun hh H2=>by
  have:=c2 H2
  rwa[decide_eq_false hh] at this
 clear c2
 simp only[openR] at ho
 have hfr:∀ (m:Int) (L:List Blk),0≤m→m<4611686018427387904→ACall Tryd.prog G 46 [.ptr mb 0 0 0] (H.set mb (mkC tb m)++L) (fun r H'=>H'=H.set mb (mkC tb (m+1))++L∧r= .str (nmN m)):=fun m L a1 a2=>by
  have:=fresh_ok G hG C0 hb0 hL tb mb m a1 a2 (H.set mb (mkC tb m)++L) (x1 _ _)
  rwa[x3] at this
 have hrs:∀ L,ACall Tryd.prog G 26 [.ptr mb 0 0 0,.list 1 (cols.map .str),.list 9 (rwCells rs)] (H.set mb (mkC tb (n+1+1))++L) (fun r H'=>H'=H.set mb (mkC tb O.2)++L∧r= .agg O.1.cells):=fun L=>by
  have:=ih (H++L) (n+2) hcl0 (by omega) hro (hM.app _) (by omega) (by omega)
  rw[← hO] at this
  rw[show n+1+1=n+2 by omega]
  simpa only[List.set_append_left _ _ hmb] using this
 have hrw:∀ L,ACall Tryd.prog G 45 [.ptr mb 0 0 0,.list 6 (ndCells ps),.list 1 (cols.map .str),.agg (appE (nmN n)).cells,.agg (repS nextN (appE (nmN n)) body).cells] (H.set mb (mkC tb O.2)++L) (fun r H'=>H'=H.set mb (mkC tb R1.2)++L∧r= .agg R1.1.cells):=fun L=>by
  have:=row_ok G hG C0 hb0 hL t har mb tb ca la (appE (nmN n)) ps cols (repS nextN (appE (nmN n)) body) (H++L) O.2 hp1 (by omega) hp2 (hM.app _) (by omega) (by omega)
  rw[← hR1e] at this
  simpa only[List.set_append_left _ _ hmb] using this
 clear hR1e hO hle
 have hrp:∀ H2,ACall Tryd.prog G 48 [.agg body.cells,.str nextN,.agg (appE (nmN n)).cells] H2 (fun v H'=>H'=H2∧v= .agg (repS nextN (appE (nmN n)) body).cells):=fun H2=>replace_ok G hG nextN (appE (nmN n)) body.wt body H2 (Nat.le_refl _) (by omega)
 have hlet:=fun H2=>let_ok G hG (nmN n) (lamE (nmN (n+1)) O.1) R1.1 H2
 have hnm:=fun H2=>named_ok G hG (nmN n) H2
 obtain⟨O1,O2⟩:=O
 obtain⟨r1,n1⟩:=R1
 simp only at hrs hrw hlet ⊢
 have e3:=body.cells_len
 have e4:=body.cells_take
 have e5:=(repS nextN (appE (nmN n)) body).cells_len
 have f1:=O1.cells_len
 have f2:=O1.cells_take
 have f3:=r1.cells_len
 have f4:=r1.cells_take
 have q1:=rwCells_len rs
 have u1:=body.cells_under H.length
 have u2:=ndCells_under H.length ps
 have u3:=O1.cells_under H.length
 have u4:=r1.cells_under H.length
 have hR1:=(letE (nmN n) (lamE (nmN (n+1)) O1) r1).cells_under H.length
 have hR2:=(letE (nmN n) (lamE (nmN (n+1)) O1) r1).cells_len
 have u5:SV.underL H.length (rwCells rs)=true:=SV.underL_map fun x _=>by simp[Rw.sv,Rw.cells,SV.under,SV.underL,x.body.cells_under,ndCells_under]
 generalize letE (nmN n) (lamE (nmN (n+1)) O1) r1=R3 at*
 have q4:List.take (rs.length+1 - 1) (rwCells rs)=rwCells rs:=List.take_of_length_le (by rw[q1];omega)
 generalize rwCells rs=RS at*
 generalize ndCells ps=PS at*
 have u6:SV.underL H.length (cols.map SV.str)=true:=SV.underL_map fun _ _=>rfl
 generalize cols.map SV.str=CS at*
 have e6:=(repS nextN (appE (nmN n)) body).cells_take
 generalize repS nextN (appE (nmN n)) body=RP at*
 simp only[nextN] at hrp
 simp only[appE,varE,unitN,lamE,Ex.cells,exCells,bdCells,alCells,List.map_nil,List.map_cons] at hrp hrw hnm hlet
 refine ACall.of_go TB [] tabOK _ Tryd.func26 rfl (by decide) Tryd.ntmps26 (by simp) rfl (by simp only[initEnv,Nat.reduceAdd];rfl) fun C R' hR hC hcl hB=>?_;have X:=noX;have hC':=congrArg List.length hC
 have hcl2:=closed_mk hM hcl
 have hC2:C.H.length=H.length:=by rw[hC,x2]
 have X0:=And.intro noX (And.intro (fun l=>List.append_nil l:∀ l:List SV,l++[]=l) (And.intro x2 (And.intro e3 (And.intro e4 (And.intro q1 (And.intro q4 (And.intro f1 (And.intro f2 (And.intro f3 (And.intro f4 (And.intro hR2 e5)))))))))))
 have X:=And.intro X0 (show ¬ ((rs.length+1:Nat):Int)=0 by omega)
 have hgo:nextN∈freeS body∨(nextN∉freeS body∧(ps.any fun p=>!(rgtF t (p.msr+1) p).2)=true):=by
  by_cases h:nextN∈freeS body
  ·exact .inl h
  ·rw[decide_eq_false h,Bool.false_or] at ho;exact .inr ⟨h,ho⟩
 clear ho
 rcases hgo with hb1|⟨hb1,hb2⟩
 ·have c2:=c2t hb1
  simp only[nextN] at c2
  clear c3
  (refine runD ?_;with_reducible repeat' first|exact trivial|(apply Fork.mk<;>intro hb)|apply Two.mk)
  clear c1 c2
  refine go_cut (fun _:Unit=>[(1,.list 1 CS),(2,.list 9 (.agg (.list 6 PS::body.cells)::RS)),(3,.ptr H.length 0 0 0),(6,.ptr (H.length+1) 0 0 0),(7,.ptr (H.length+2) 0 0 0),(9,.str (nmN n)),(10,.str (nmN (n+1)))]) (fun _=>H.set mb (mkC tb (n+1+1))++[Blk.cells 0 1 [.ptr mb 0 0 0],Blk.cells 0 8 [.agg [.int .i64 0,.str [],.int .i64 0,.int .i64 0,.list 1 [],.list 8 [],.list 9 [],.list 12 []]],.cells 0 9 [.agg (.list 6 PS::body.cells)]]) (fun _=>True) (fun K hK=>?_) (fun _ _=>?_)
  ·have c1:=fun L=>hfr n L h0 (by omega)
   have c2:=fun L=>hfr (n+1) L (by omega) (by omega)
   have X:=X0
   (refine run ?_;with_reducible repeat' first|exact trivial|(apply Fork.mk<;>intro hb)|apply Two.mk)
   all_goals
    refine hK _ _ () trivial ?_
    exact Wk.sub (by simp[subEnv,look])
  refine go_seq ?_
  refine go_cut (fun _:Unit=>[(1,.list 1 CS),(2,.list 9 (.agg (.list 6 PS::body.cells)::RS)),(3,.ptr H.length 0 0 0),(6,.ptr (H.length+1) 0 0 0),(7,.ptr (H.length+2) 0 0 0),(9,.str (nmN n)),(10,.str (nmN (n+1))),(11,.ptr (H.length+3) 0 0 0)]) (fun _=>H.set mb (mkC tb O2)++[Blk.cells 0 1 [.ptr mb 0 0 0],Blk.cells 0 8 [.agg [.int .i64 0,.str [],.int .i64 0,.int .i64 0,.list 1 [],.list 8 [],.list 9 [],.list 12 []]],.cells 0 9 [.agg (.list 6 PS::body.cells)],.cells 0 8 [.agg O1.cells]]) (fun _=>True) (fun K hK=>?_) (fun _ _=>?_)
  ·have c1:=hrs
   have X:=X0
   (refine run ?_;with_reducible repeat' first|exact trivial|(apply Fork.mk<;>intro hb)|apply Two.mk)
   all_goals
    refine hK _ _ () trivial ?_
    exact Wk.sub (by simp[subEnv,look])
  have c1:=hnm
  have X:=X0
  (refine runD ?_;with_reducible repeat' first|exact trivial|(apply Fork.mk<;>intro hb)|apply Two.mk)
  clear c1
  refine go_cut (fun _:Unit=>[(6,.ptr (H.length+1) 0 0 0),(9,.str (nmN n)),(10,.str (nmN (n+1))),(11,.ptr (H.length+3) 0 0 0),(13,.ptr (H.length+5) 0 0 0)]) (fun _=>H.set mb (mkC tb n1)++[Blk.cells 0 1 [.ptr mb 0 0 0],Blk.cells 0 8 [.agg [.int .i64 0,.str [],.int .i64 0,.int .i64 0,.list 1 [],.list 8 [],.list 9 [],.list 12 []]],.cells 0 9 [.agg (.list 6 PS::body.cells)],.cells 0 8 [.agg O1.cells],.cells 0 8 [.agg [.int .i64 4,.str [],.int .i64 0,.int .i64 0,.list 1 [],.list 8 [.agg [.int .i64 1,.str (nmN n),.int .i64 0,.int .i64 0,.list 1 [],.list 8 [],.list 9 [],.list 12 []],.agg [.int .i64 7,.str [80,114,105,109,46,40,41],.int .i64 0,.int .i64 0,.list 1 [],.list 8 [],.list 9 [],.list 12 []]],.list 9 [],.list 12 []]],.cells 0 8 [.agg r1.cells]]) (fun _=>True) (fun K hK=>?_) (fun _ _=>?_)
  ·have c1:=hrp
   have c2:=hrw
   have X:=X0
   (refine run ?_;with_reducible repeat' first|exact trivial|(apply Fork.mk<;>intro hb)|apply Two.mk)
   all_goals
    refine hK _ _ () trivial ?_
    exact Wk.sub (by simp[subEnv,look])
  have c1:=hlet
  have X:=X0
  (refine run ?_;with_reducible repeat' first|exact trivial|(apply Fork.mk<;>intro hb)|apply Two.mk)
  exact finS (n0:=H.length) hR hC2 (hcl2 _) (.same _ (by simp[resSV,SV.under,hR1])) ⟨rfl,rfl⟩ (hn:=x2 _)
 ·have c2:=c2f hb1
  simp only[nextN] at c2
  rw[hb2] at c3
  (refine runD ?_;with_reducible repeat' first|exact trivial|(apply Fork.mk<;>intro hb)|apply Two.mk)
  clear c1 c2
  refine go_cut (fun _:Unit=>[(1,.list 1 CS),(2,.list 9 (.agg (.list 6 PS::body.cells)::RS)),(3,.ptr H.length 0 0 0),(6,.ptr (H.length+1) 0 0 0),(7,.ptr (H.length+2) 0 0 0),(9,.str (nmN n)),(10,.str (nmN (n+1)))]) (fun _=>H.set mb (mkC tb (n+1+1))++[Blk.cells 0 1 [.ptr mb 0 0 0],Blk.cells 0 8 [.agg [.int .i64 0,.str [],.int .i64 0,.int .i64 0,.list 1 [],.list 8 [],.list 9 [],.list 12 []]],.cells 0 9 [.agg (.list 6 PS::body.cells)]]) (fun _=>True) (fun K hK=>?_) (fun _ _=>?_)
  ·have c1:=fun L=>hfr n L h0 (by omega)
   have c2:=fun L=>hfr (n+1) L (by omega) (by omega)
   have X:=X0
   (refine run ?_;with_reducible repeat' first|exact trivial|(apply Fork.mk<;>intro hb)|apply Two.mk)
   all_goals
    refine hK _ _ () trivial ?_
    exact Wk.sub (by simp[subEnv,look])
  refine go_seq ?_
  refine go_cut (fun _:Unit=>[(1,.list 1 CS),(2,.list 9 (.agg (.list 6 PS::body.cells)::RS)),(3,.ptr H.length 0 0 0),(6,.ptr (H.length+1) 0 0 0),(7,.ptr (H.length+2) 0 0 0),(9,.str (nmN n)),(10,.str (nmN (n+1))),(11,.ptr (H.length+3) 0 0 0)]) (fun _=>H.set mb (mkC tb O2)++[Blk.cells 0 1 [.ptr mb 0 0 0],Blk.cells 0 8 [.agg [.int .i64 0,.str [],.int .i64 0,.int .i64 0,.list 1 [],.list 8 [],.list 9 [],.list 12 []]],.cells 0 9 [.agg (.list 6 PS::body.cells)],.cells 0 8 [.agg O1.cells]]) (fun _=>True) (fun K hK=>?_) (fun _ _=>?_)
  ·have c1:=hrs
   have X:=X0
   (refine run ?_;with_reducible repeat' first|exact trivial|(apply Fork.mk<;>intro hb)|apply Two.mk)
   all_goals
    refine hK _ _ () trivial ?_
    exact Wk.sub (by simp[subEnv,look])
  have c1:=hnm
  have X:=X0
  (refine runD ?_;with_reducible repeat' first|exact trivial|(apply Fork.mk<;>intro hb)|apply Two.mk)
  clear c1
  refine go_cut (fun _:Unit=>[(6,.ptr (H.length+1) 0 0 0),(9,.str (nmN n)),(10,.str (nmN (n+1))),(11,.ptr (H.length+3) 0 0 0),(13,.ptr (H.length+5) 0 0 0)]) (fun _=>H.set mb (mkC tb n1)++[Blk.cells 0 1 [.ptr mb 0 0 0],Blk.cells 0 8 [.agg [.int .i64 0,.str [],.int .i64 0,.int .i64 0,.list 1 [],.list 8 [],.list 9 [],.list 12 []]],.cells 0 9 [.agg (.list 6 PS::body.cells)],.cells 0 8 [.agg O1.cells],.cells 0 8 [.agg [.int .i64 4,.str [],.int .i64 0,.int .i64 0,.list 1 [],.list 8 [.agg [.int .i64 1,.str (nmN n),.int .i64 0,.int .i64 0,.list 1 [],.list 8 [],.list 9 [],.list 12 []],.agg [.int .i64 7,.str [80,114,105,109,46,40,41],.int .i64 0,.int .i64 0,.list 1 [],.list 8 [],.list 9 [],.list 12 []]],.list 9 [],.list 12 []]],.cells 0 8 [.agg r1.cells]]) (fun _=>True) (fun K hK=>?_) (fun _ _=>?_)
  ·have c1:=hrp
   have c2:=hrw
   have X:=X0
   (refine run ?_;with_reducible repeat' first|exact trivial|(apply Fork.mk<;>intro hb)|apply Two.mk)
   all_goals
    refine hK _ _ () trivial ?_
    exact Wk.sub (by simp[subEnv,look])
  have c1:=hlet
  have X:=X0
  (refine run ?_;with_reducible repeat' first|exact trivial|(apply Fork.mk<;>intro hb)|apply Two.mk)
  exact finS (n0:=H.length) hR hC2 (hcl2 _) (.same _ (by simp[resSV,SV.under,hR1])) ⟨rfl,rfl⟩ (hn:=x2 _)
theorem rows_ok (G:Gl) (hG:GClosed G) (C0:Cx) (hb0:G.base=some C0) (hL:LibAt C0) (t:Tb) (har:∀ c∈t.cons,c.arity≤100) (mb tb ca la:Nat) (cols:List Str):∀ rs:List Rw,RowsC G t mb tb ca la cols rs
 |[],H,n,_,_,_,hM,h0,hn=>by
  obtain⟨x1,x2,x3⟩:=hM.X
  rw[show rowsF t cols [] n=(raiseE,n) by rw[rowsF]]
  have hR1:=raiseE.cells_under H.length
  simp only[rwCells,List.map_nil]
  refine ACall.of_go TB [] tabOK _ Tryd.func26 rfl (by decide) Tryd.ntmps26 (by simp) rfl (by simp only[initEnv,Nat.reduceAdd];rfl) fun C R' hR hC hcl hB=>?_;have X:=noX;have hC':=congrArg List.length hC
  have hcl2:=closed_mk hM hcl
  have hC2:C.H.length=H.length:=by rw[hC,x2]
  have X:=And.intro X x2
  (refine run ?_;with_reducible repeat' first|exact trivial|(apply Fork.mk<;>intro hb)|apply Two.mk)
  exact finS (n0:=H.length) hR hC2 (hcl2 _) (.same _ rfl) ⟨rfl,rfl⟩ (hn:=x2 _)
 |r::rs,H,n,hc,hl,hro,hM,h0,hn=>by
  obtain⟨ps,body⟩:=r
  have ih:=rows_ok G hG C0 hb0 hL t har mb tb ca la cols rs
  have hro':RowsOK t cols rs:=fun q hq=>hro q (List.mem_cons_of_mem _ hq)
  obtain⟨r1,r2,r3⟩:=hro _ (List.mem_cons_self ..)
  simp only at r1 r2 r3
  have ecnt:cntR (⟨ps,body⟩::rs)=2+101*msrN ps+cntR rs:=by simp[cntR]
  simp only[List.length_cons] at hl
  have hcells:rwCells (⟨ps,body⟩::rs)= .agg (.list 6 (ndCells ps)::body.cells)::rwCells rs:=rfl
  rw[hcells]
  cases ho:openR t ⟨ps,body⟩ with
  |true=>
   rw[show rowsF t cols (⟨ps,body⟩::rs) n=(letE (nmN n) (lamE (nmN (n+1)) (rowsF t cols rs (n+2)).1) (rowF t (appE (nmN n)) ps cols (repS nextN (appE (nmN n)) body) (rowsF t cols rs (n+2)).2).1,(rowF t (appE (nmN n)) ps cols (repS nextN (appE (nmN n)) body) (rowsF t cols rs (n+2)).2).2) by rw[rowsF];simp only[ho,if_true]]
   exact rows_open G hG C0 hb0 hL t har mb tb ca la cols ps body rs H n hc (by omega) r1 r2 r3 hM h0 ih hro' hn ho _ rfl _ rfl
  |false=>
   rw[show rowsF t cols (⟨ps,body⟩::rs) n=rowF t emptyE ps cols body n by rw[rowsF];simp only[ho,Bool.false_eq_true,if_false]]
   exact rows_closed G hG C0 hb0 hL t har mb tb ca la cols ps body rs H n hc (by omega) r1 r2 r3 hM h0 (by omega) ho
theorem right_cl (G:Gl) (hG:GClosed G) (t:Tb) (tb ca la:Nat) (K:List Blk) (hT:TbAt K t tb ca la) (b:Nat) (hb:K[b]? =some (.cells 0 1 [.ptr tb 0 0 0])) (p:Nd) (hp:p.msr+1<2147483648):
 ACall Tryd.prog G 23 [.agg p.cells,.ptr b 0 0 0] K (fun r H'=>H'=K∧r= .bool (!(rgtF t (p.msr+1) p).1)):=by
 have c1:=fun L=>right_ok2 G hG t (p.msr+1) tb ca la p (K++L) (Nat.lt_succ_self _) hp (hT.app L)
 have e5:=p.cells_len
 have e6:=p.cells_take
 have u1:=p.cells_under K.length
 have hb2:∀ L,(K++L)[b]? =some (.cells 0 1 [.ptr tb 0 0 0]):=fun L=>get_app_left hb
 generalize rgtF t (p.msr+1) p=F at*
 refine ACall.of_go TB [] tabOK _ Tryd.func23 rfl (by decide) Tryd.ntmps23 (by simp) rfl (by simp only[initEnv,Nat.reduceAdd];rfl) fun C R' hR hC hcl hB=>?_;have X:=noX;have hC':=congrArg List.length hC
 have X:=And.intro X (And.intro hb (And.intro hb2 (And.intro e5 e6)))
 (refine run ?_;with_reducible repeat' first|exact trivial|(apply Fork.mk<;>intro hb)|apply Two.mk)
 exact finS (n0:=K.length) hR hC' hcl (.same _ rfl) ⟨rfl,rfl⟩
def wrongF (t:Tb) (m:Nat) (r:Rw):Bool:=!decide (r.pats.length=m)||r.pats.any fun p=>!(rgtF t (p.msr+1) p).1
theorem wrong_cl (G:Gl) (hG:GClosed G) (t:Tb) (tb ca la:Nat) (K:List Blk) (hT:TbAt K t tb ca la) (b1 b2:Nat) (cols:List Str) (h1:K[b1]? =some (.cells 0 1 [.list 1 (cols.map .str)])) (h2:K[b2]? =some (.cells 0 1 [.ptr tb 0 0 0])) (r:Rw) (hl:r.pats.length<4294967296) (hp:∀ p∈r.pats,p.msr+1<2147483648):
 ACall Tryd.prog G 21 [.agg r.cells,.ptr b1 0 0 0,.ptr b2 0 0 0] K (fun v H'=>H'=K∧v= .bool (wrongF t cols.length r)):=by
 obtain⟨ps,body⟩:=r
 simp only[Rw.cells,wrongF] at*
 have hlt2:=(List.getElem?_eq_some_iff.1 h2).1
 have c1:=anyNd_ok G hG (.fn (.func 23) [] [.ptr b2 0 0 0]) (fun p=>!(rgtF t (p.msr+1) p).1) ps (K++[Blk.cells 0 9 [.agg (.list 6 (ndCells ps)::body.cells)]]) (by omega) (by simp[SV.under,SV.underL];omega) (fun p hpm=>ACallV.of (by
  have:=right_cl G hG t tb ca la (K++[Blk.cells 0 9 [.agg (.list 6 (ndCells ps)::body.cells)]]) (hT.app _) b2 (get_app_left h2) p (hp p hpm)
  exact this))
 have h3:∀ L,(K++L)[b1]? =some (.cells 0 1 [.list 1 (cols.map .str)]):=fun L=>get_app_left h1
 have q1:=ndCells_len ps
 have q2:(cols.map SV.str).length=cols.length:=by simp
 have e3:=body.cells_len
 have u1:=body.cells_under K.length
 have u2:=ndCells_under K.length ps
 generalize (ps.any fun p=>!(rgtF t (p.msr+1) p).1)=bb at*
 generalize cols.map SV.str=CS at*
 generalize ndCells ps=PS at*
 refine ACall.of_go TB [] tabOK _ Tryd.func21 rfl (by decide) Tryd.ntmps21 (by simp) rfl (by simp only[initEnv,Nat.reduceAdd];rfl) fun C R' hR hC hcl hB=>?_;have X:=noX;have hC':=congrArg List.length hC
 have X:=And.intro X (And.intro h1 (And.intro h3 (And.intro q1 (And.intro q2 e3))))
 (refine run ?_;with_reducible repeat' first|exact trivial|(apply Fork.mk<;>intro hb)|apply Two.mk)
 ·exact finS (n0:=K.length) hR hC' hcl (.same _ rfl) ⟨rfl,by rw[decide_eq_false (fun h=>hb (by omega))];rfl⟩
 ·exact finS (n0:=K.length) hR hC' hcl (.same _ rfl) ⟨rfl,by rw[decide_eq_true (by omega)];rfl⟩
def badF (t:Tb) (names:List Str) (first:Int) (rows:List Rw):Bool:=decide (first<1)||decide ([]∈names)||rows.any (wrongF t names.length)
theorem badF_rows {t:Tb} {names:List Str} {first:Int} {rows:List Rw} (h:badF t names first rows=false) (hp:∀ r∈rows,(∀ p∈r.pats,p.msr+1<2147483648)∧r.body.wt<2147483648):1≤first∧RowsOK t names rows:=by
 simp only[badF,Bool.or_eq_false_iff,decide_eq_false_iff_not,List.any_eq_false] at h
 obtain⟨⟨h1,_⟩,h2⟩:=h
 refine⟨by omega,fun r hr=>?_⟩
 have h3:=h2 r hr
 simp only[wrongF,Bool.not_eq_true,Bool.or_eq_false_iff,List.any_eq_false,Bool.not_eq_false',decide_eq_true_eq] at h3
 refine⟨h3.1,fun p hpm=>⟨(hp r hr).1 p hpm,?_⟩,(hp r hr).2⟩
 have:=h3.2 p hpm
 simpa using this
theorem Compile_ok (G:Gl) (hG:GClosed G) (C0:Cx) (hb0:G.base=some C0) (hL:LibAt C0) (t:Tb) (har:∀ c∈t.cons,c.arity≤100) (names:List Str) (first:Int) (rows:List Rw) (H:List Blk)
 (h1:t.cons.length<4294967296) (h2:t.labels.length<4294967296) (h3:names.length<4294967296) (h4:rows.length<4294967296) (hp:∀ r∈rows,(∀ p∈r.pats,p.msr+1<2147483648)∧r.body.wt<2147483648) (hpl:∀ r∈rows,r.pats.length<4294967296) (hbd:first+cntR rows≤1152921504606846976):
 ACall Tryd.prog G 9 [.agg [.list 4 (cnCells t.cons),.list 3 (lbCells t.labels)],.list 1 (names.map .str),.int .i64 first,.list 9 (rwCells rows)] H (fun r H'=>H'=H∧r=if badF t names first rows=true then .tuple [.agg emptyE.cells,.int .i64 0,.int .i64 1] else .tuple [.agg (rowsF t names rows first).1.cells,.int .i64 (rowsF t names rows first).2,.int .i64 0]):=by
 have c1:=fun H2=>tabled_ok G hG t H2 h1 h2
 have q1:(names.map SV.str).length=names.length:=by simp
 have q2:=rwCells_len rows
 have q3:=cnCells_len t.cons
 have q4:=lbCells_len t.labels
 have u1:=cnCells_under H.length t.cons
 have u2:=lbCells_under H.length t.labels
 have c2:=fun H2=>contains_list G names [] H2 (by omega)
 have hT:TbAt (H++[Blk.cells 0 2 [.agg [.list 4 (cnCells t.cons),.list 3 (lbCells t.labels)]],Blk.cells 0 1 [.list 1 (names.map .str)],Blk.cells 0 8 [.agg [.int .i64 0,.str [],.int .i64 0,.int .i64 0,.list 1 [],.list 8 [],.list 9 [],.list 12 []]],Blk.map none (consM t.cons),Blk.map (some .pair) (labM t.labels),Blk.cells 0 2 [.agg [.map (H.length+3),.map (H.length+4)]],Blk.cells 0 1 [.ptr (H.length+5) 0 0 0]]) t (H.length+5) (H.length+3) (H.length+4):=⟨by rw[get_app];rfl,by rw[get_app];rfl,by rw[get_app];rfl⟩
 have c3:=anyRw_ok G hG (.fn (.func 21) [] [.ptr (H.length+1) 0 0 0,.ptr (H.length+6) 0 0 0]) (wrongF t names.length) rows (H++[Blk.cells 0 2 [.agg [.list 4 (cnCells t.cons),.list 3 (lbCells t.labels)]],Blk.cells 0 1 [.list 1 (names.map .str)],Blk.cells 0 8 [.agg [.int .i64 0,.str [],.int .i64 0,.int .i64 0,.list 1 [],.list 8 [],.list 9 [],.list 12 []]],Blk.map none (consM t.cons),Blk.map (some .pair) (labM t.labels),Blk.cells 0 2 [.agg [.map (H.length+3),.map (H.length+4)]],Blk.cells 0 1 [.ptr (H.length+5) 0 0 0]]) (by omega) (by simp[SV.under,SV.underL]) (fun r hr=>ACallV.of (by
  have:=wrong_cl G hG t (H.length+5) (H.length+3) (H.length+4) (H++[Blk.cells 0 2 [.agg [.list 4 (cnCells t.cons),.list 3 (lbCells t.labels)]],Blk.cells 0 1 [.list 1 (names.map .str)],Blk.cells 0 8 [.agg [.int .i64 0,.str [],.int .i64 0,.int .i64 0,.list 1 [],.list 8 [],.list 9 [],.list 12 []]],Blk.map none (consM t.cons),Blk.map (some .pair) (labM t.labels),Blk.cells 0 2 [.agg [.map (H.length+3),.map (H.length+4)]],Blk.cells 0 1 [.ptr (H.length+5) 0 0 0]]) hT (H.length+1) (H.length+6) names (by rw[get_app];rfl) (by rw[get_app];rfl) r (hpl r hr) (hp r hr).1
  exact this))
 have c2t:[]∈names→∀ H2,ACall Tryd.prog G 24 [.list 1 (names.map .str),.str []] H2 (fun r H'=>H'=H2∧r= .bool true):=fun hh H2=>by
  have:=c2 H2
  rwa[decide_eq_true hh] at this
 have c2f:[]∉names→∀ H2,ACall Tryd.prog G 24 [.list 1 (names.map .str),.str []] H2 (fun r H'=>H'=H2∧r= .bool false):=fun hh H2=>by
  have:=c2 H2
  rwa[decide_eq_false hh] at this
 clear c2
 have hbf:∀ b,badF t names first rows=b→(decide (first<1)||decide ([]∈names)||rows.any (wrongF t names.length))=b:=fun b h=>h
 have u3:SV.underL H.length (rwCells rows)=true:=SV.underL_map fun x _=>by simp[Rw.sv,Rw.cells,SV.under,SV.underL,x.body.cells_under,ndCells_under]
 simp only[tbB] at c1
 refine ACall.of_go TB [] tabOK _ Tryd.func9 rfl (by decide) Tryd.ntmps9 (by simp) rfl (by simp only[initEnv,Nat.reduceAdd];rfl) fun C R' hR hC hcl hB=>?_;have X:=noX;have hC':=congrArg List.length hC
 have X0:=And.intro noX (And.intro q1 (And.intro q2 (And.intro q3 q4)))
 by_cases g1:first<1
 ·rw[show badF t names first rows=true by simp[badF,g1],if_pos rfl] at hR
  clear c3
  have X:=And.intro X0 g1
  (refine run ?_;with_reducible repeat' first|exact trivial|(apply Fork.mk<;>intro hb)|apply Two.mk)
  exact finS (n0:=H.length) hR hC' hcl (.same _ rfl) ⟨rfl,rfl⟩
 by_cases g2:[]∈names
 ·rw[show badF t names first rows=true by simp[badF,g2],if_pos rfl] at hR
  have c2:=c2t g2
  clear c3
  have X:=And.intro X0 g1
  (refine run ?_;with_reducible repeat' first|exact trivial|(apply Fork.mk<;>intro hb)|apply Two.mk)
  exact finS (n0:=H.length) hR hC' hcl (.same _ rfl) ⟨rfl,rfl⟩
 have c2:=c2f g2
 cases g3:rows.any (wrongF t names.length) with
 |true=>
  rw[show badF t names first rows=true by simp only[badF,g3,Bool.or_true],if_pos rfl] at hR
  rw[g3] at c3
  have X:=And.intro X0 g1
  (refine run ?_;with_reducible repeat' first|exact trivial|(apply Fork.mk<;>intro hb)|apply Two.mk)
  exact finS (n0:=H.length) hR hC' hcl (.same _ rfl) ⟨rfl,rfl⟩
 |false=>
  have hbad:badF t names first rows=false:=by simp only[badF,g3,decide_eq_false g1,decide_eq_false g2,Bool.or_false]
  rw[hbad,if_neg (by simp)] at hR
  rw[g3] at c3
  obtain⟨f1,hro⟩:=badF_rows hbad hp
  have c4:ACall Tryd.prog G 26 [.ptr (H.length+7) 0 0 0,.list 1 (names.map .str),.list 9 (rwCells rows)] (H++[Blk.cells 0 2 [.agg [.list 4 (cnCells t.cons),.list 3 (lbCells t.labels)]],Blk.cells 0 1 [.list 1 (names.map .str)],Blk.cells 0 8 [.agg [.int .i64 0,.str [],.int .i64 0,.int .i64 0,.list 1 [],.list 8 [],.list 9 [],.list 12 []]],Blk.map none (consM t.cons),Blk.map (some .pair) (labM t.labels),Blk.cells 0 2 [.agg [.map (H.length+3),.map (H.length+4)]],Blk.cells 0 1 [.ptr (H.length+5) 0 0 0],Blk.cells 0 2 [.agg [.ptr (H.length+5) 0 0 0,.int .i64 first]]]) (fun r H'=>H'=H++[Blk.cells 0 2 [.agg [.list 4 (cnCells t.cons),.list 3 (lbCells t.labels)]],Blk.cells 0 1 [.list 1 (names.map .str)],Blk.cells 0 8 [.agg [.int .i64 0,.str [],.int .i64 0,.int .i64 0,.list 1 [],.list 8 [],.list 9 [],.list 12 []]],Blk.map none (consM t.cons),Blk.map (some .pair) (labM t.labels),Blk.cells 0 2 [.agg [.map (H.length+3),.map (H.length+4)]],Blk.cells 0 1 [.ptr (H.length+5) 0 0 0],Blk.cells 0 2 [.agg [.ptr (H.length+5) 0 0 0,.int .i64 (rowsF t names rows first).2]]]∧r= .agg (rowsF t names rows first).1.cells):=by
   have hT2:=hT.app [Blk.cells 0 2 [.agg [.ptr (H.length+5) 0 0 0,.int .i64 first]]]
   rw[List.append_assoc] at hT2
   have:=rows_ok G hG C0 hb0 hL t har (H.length+7) (H.length+5) (H.length+3) (H.length+4) names rows (H++[Blk.cells 0 2 [.agg [.list 4 (cnCells t.cons),.list 3 (lbCells t.labels)]],Blk.cells 0 1 [.list 1 (names.map .str)],Blk.cells 0 8 [.agg [.int .i64 0,.str [],.int .i64 0,.int .i64 0,.list 1 [],.list 8 [],.list 9 [],.list 12 []]],Blk.map none (consM t.cons),Blk.map (some .pair) (labM t.labels),Blk.cells 0 2 [.agg [.map (H.length+3),.map (H.length+4)]],Blk.cells 0 1 [.ptr (H.length+5) 0 0 0],Blk.cells 0 2 [.agg [.ptr (H.length+5) 0 0 0,.int .i64 first]]]) first h3 h4 hro ⟨hT2,by simp,by omega,by omega,by omega⟩ (by omega) (by omega)
   rw[set_same (by rw[get_app];rfl)] at this
   simpa only[mkC,set_app,List.set_cons_succ,List.set_cons_zero] using this
  have hR1:=(rowsF t names rows first).1.cells_under H.length
  have hR2:=(rowsF t names rows first).1.cells_len
  have hR3:=(rowsF t names rows first).1.cells_take
  generalize rowsF t names rows first=R1 at*
  obtain⟨r1,n1⟩:=R1
  simp only at c4 hR1 hR2 hR3 hR
  have X:=And.intro X0 (And.intro g1 (And.intro hR2 hR3))
  (refine run ?_;with_reducible repeat' first|exact trivial|(apply Fork.mk<;>intro hb)|apply Two.mk)
  exact finS (n0:=H.length) hR hC' hcl (.same _ (by simp[resSV,SV.under,SV.underL,hR1])) ⟨rfl,rfl⟩
theorem ndsWt_take (l:List Nd) {i:Nat} (h:i<l.length):ndsWt (l.take (i+1))=ndsWt (l.take i)+l[i].wt:=by
 rw[List.take_succ_eq_append_getElem h]
 have:∀ a b:List Nd,ndsWt (a++b)=ndsWt a+ndsWt b:=fun a b=>by
  induction a with
  |nil=>simp[ndsWt]
  |cons x r ih=>simp only[List.cons_append,ndsWt,ih];omega
 rw[this];simp[ndsWt]
def SmlC (G:Gl) (f:Nat):Prop:=∀ (p:Nd) (H:List Blk),p.wt<1099511627776→f≤101→
 ACall Tryd.prog G 13 [.agg p.cells,.int .i64 (101 - f)] H (fun r H'=>H'=H∧∃ (m:Int) (b:Bool),r= .tuple [.int .i64 m,.bool b]∧1≤m∧m≤2201*(f+1)∧(b=true→m=p.wt∧p.wt≤2000))
theorem small_ok (G:Gl) (hG:GClosed G):∀ f:Nat,SmlC G f
 |0=>fun p H hw hf=>by
  have e5:=p.cells_len
  have u1:=p.cells_under H.length
  obtain⟨k,nm,pn,a,b,l⟩:=p
  simp only[Nd.cells] at e5 u1 ⊢
  clear e5
  refine ACall.of_go TB [] tabOK _ Tryd.func13 rfl (by decide) Tryd.ntmps13 (by simp) rfl (by simp only[initEnv,Nat.reduceAdd];rfl) fun C R' hR hC hcl hB=>?_;have X:=noX;have hC':=congrArg List.length hC
  (refine run ?_;with_reducible repeat' first|exact trivial|(apply Fork.mk<;>intro hb)|apply Two.mk)
  exact finS (n0:=H.length) hR hC' hcl (.same _ rfl) ⟨rfl,1,false,rfl,by omega,by omega,fun h=>by cases h⟩
 |f+1=>fun p H hw hf=>by
  have ih:=small_ok G hG f
  obtain⟨k,nm,pn,a,b,l⟩:=p
  have hwe:(Nd.mk k nm pn a b l).wt=1+nm.length+ndsWt l:=rfl
  rw[hwe] at hw ⊢
  simp only[Nd.cells]
  have hll:=ndsWt_len l
  have q1:=ndCells_len l
  have u1:SV.underL H.length (ndCells l)=true:=ndCells_under _ _
  have hfb:((f+1:Nat):Int)=f+1:=by omega
  have hat:(101:Int) - ((f+1:Nat):Int)+1=101 - f:=by omega
  generalize hA:(101:Int) - ((f+1:Nat):Int)=A at*
  have hA2:¬ 100<A:=by omega
  by_cases hn:200<nm.length
  ·have hn':(200:Int)<nm.length:=by omega
   refine ACall.of_go TB [] tabOK _ Tryd.func13 rfl (by decide) Tryd.ntmps13 (by simp) rfl (by simp only[initEnv,Nat.reduceAdd];rfl) fun C R' hR hC hcl hB=>?_;have X:=noX;have hC':=congrArg List.length hC
   have X:=And.intro X (And.intro hA2 hn')
   (refine run ?_;with_reducible repeat' first|exact trivial|(apply Fork.mk<;>intro hb)|apply Two.mk)
   exact finS (n0:=H.length) hR hC' hcl (.same _ rfl) ⟨rfl,1,false,rfl,by omega,by omega,fun h=>by cases h⟩
  have hn':¬ (200:Int)<nm.length:=by omega
  refine ACall.of_go TB [] tabOK _ Tryd.func13 rfl (by decide) Tryd.ntmps13 (by simp) rfl (by simp only[initEnv,Nat.reduceAdd];rfl) fun C R' hR hC hcl hB=>?_;have X:=noX;have hC':=congrArg List.length hC
  have X:=And.intro X (And.intro hA2 hn')
  (refine run ?_;with_reducible repeat' first|exact trivial|(apply Fork.mk<;>intro hb)|apply Two.mk)
  refine go_loop (fun i:Nat=>[(1,.int .i64 A),(2,.ptr H.length 0 0 0),(6,.int .i64 ((1+nm.length+ndsWt (l.take i):Nat):Int)),(7,.int .i64 i)]) (fun i=>H++[.cells 0 6 [.agg [.int .i64 k,.str nm,.int .i64 pn,.int .i64 a,.int .i64 b,.list 6 (ndCells l)]]]) (fun i=>l.length - i) (fun i=>i≤l.length∧1+nm.length+ndsWt (l.take i)≤2000) 0 ⟨Nat.zero_le _,by simp[ndsWt];omega⟩ ?_ ?_
  ·simp only[List.take_zero,ndsWt,Nat.add_zero,Int.natCast_add,Int.natCast_one]
   exact Wk.sub (by simp[subEnv,look])
  rintro K i ⟨hi,hi2⟩ hK
  rcases Nat.lt_or_ge i l.length with hlt|hge
  ·have e1:(ndCells l)[i]? =some (.agg l[i].cells):=by rw[ndCells_get2,List.getElem?_eq_getElem hlt];rfl
   have e2:=ndsWt_take l hlt
   have e3:=ndsWt_mem (List.getElem_mem hlt)
   have hc:=fun H2=>ih l[i] H2 (by omega) (by omega)
   have e5:=l[i].cells_len
   have e6:=l[i].cells_take
   generalize l[i]=x at*
   rw[← hat] at hc
   generalize hS:1+nm.length+ndsWt (l.take i)=S at*
   have X:=And.intro noX (And.intro q1 (And.intro e1 (And.intro e5 e6)))
   (refine run ?_;with_reducible repeat' first|exact trivial|(apply Fork.mk<;>intro hb)|apply Two.mk)
   refine callS (hc _) ?_
   rintro r H' ⟨rfl,m,bb,rfl,m1,m2,m3⟩
   cases bb with
   |false=>
    have X:=noX
    (refine run ?_;with_reducible repeat' first|exact trivial|(apply Fork.mk<;>intro hb)|apply Two.mk)
    exact finS (n0:=H.length) hR hC' hcl (.same _ rfl) ⟨rfl,_,false,rfl,by omega,by omega,fun h=>by cases h⟩
   |true=>
    obtain⟨rfl,m4⟩:=m3 rfl
    have X:=noX
    (refine run ?_;with_reducible repeat' first|exact trivial|(apply Fork.mk<;>intro hb)|apply Two.mk)
    ·exact finS (n0:=H.length) hR hC' hcl (.same _ rfl) ⟨rfl,_,false,rfl,by omega,by omega,fun h=>by cases h⟩
    ·refine hK _ _ (i+1) (by omega) ⟨by omega,by omega⟩ ?_
     rw[e2]
     rw[show((1+nm.length+(ndsWt (l.take i)+x.wt):Nat):Int)=(S:Int)+x.wt by omega]
     exact wkS (n0:=H.length) [(H.length,0)] hG hB hC' hcl
  obtain rfl:i=l.length:=by omega
  rw[List.take_length] at hi2 ⊢
  clear hK
  have X:=And.intro noX (And.intro q1 (Int.lt_irrefl (l.length:Int)))
  (refine run ?_;with_reducible repeat' first|exact trivial|(apply Fork.mk<;>intro hb)|apply Two.mk)
  exact finS (n0:=H.length) hR hC' hcl (.same _ rfl) ⟨rfl,_,true,rfl,by omega,by omega,fun _=>⟨by omega,hi2⟩⟩
def BdR (f:Nat) (r:SV):Prop:=∃ (m:Int) (b:Bool),r= .tuple [.int .i64 m,.bool b]∧1≤m∧m≤2001*(f+1)
theorem body_ok (G:Gl) (hG:GClosed G):∀ (f:Nat) (e:Ex) (H:List Blk),e.wt<1099511627776→f≤101→
 ACall Tryd.prog G 11 [.agg e.cells,.int .i64 (101 - f)] H (fun r H'=>H'=H∧BdR f r)
 |0,e,H,hw,hf=>by
  have e3:=e.cells_len
  have u1:=e.cells_under H.length
  refine ACall.of_go TB [] tabOK _ Tryd.func11 rfl (by decide) Tryd.ntmps11 (by simp) rfl (by simp only[initEnv,Nat.reduceAdd];rfl) fun C R' hR hC hcl hB=>?_;have X:=noX;have hC':=congrArg List.length hC
  have X:=And.intro X e3
  (refine run ?_;with_reducible repeat' first|exact trivial|(apply Fork.mk<;>intro hb)|apply Two.mk)
  exact finS (n0:=H.length) hR hC' hcl (.same _ rfl) ⟨rfl,1,false,rfl,by omega,by omega⟩
 |f+1,e,H,hw,hf=>by
  obtain⟨k,s,n,o,l,subs,binds,alts⟩:=e
  have hlen:=Ex.wt_lens k s n o l subs binds alts
  have hP:(Ex.mk k s n o l subs binds alts).parts=subs++(binds.map Bd.e++alts.map Al.body):=Ex.parts_mk ..
  generalize hpp:(Ex.mk k s n o l subs binds alts).parts=pp at hP
  have hlp:pp.length=subs.length+binds.length+alts.length:=by rw[hP];simp;omega
  have hat:(101:Int) - ((f+1:Nat):Int)+1=101 - f:=by omega
  have hrec:∀ p∈pp,∀ H2,ACall Tryd.prog G 11 [.agg p.cells,.int .i64 (101 - ((f+1:Nat):Int)+1)] H2 (fun r H'=>H'=H2∧BdR f r):=fun p hp H2=>by
   rw[hat]
   exact body_ok G hG f p H2 (Nat.lt_trans (Ex.wt_parts (hpp ▸ hp)) hw) (by omega)
  generalize hA:(101:Int) - ((f+1:Nat):Int)=A at*
  have hA2:¬ 100<A:=by omega
  simp only[Ex.cells]
  refine ACall.of_go TB [] tabOK _ Tryd.func11 rfl (by decide) Tryd.ntmps11 (by simp) rfl (by simp only[initEnv,Nat.reduceAdd];rfl) fun C R' hR hC hcl hB=>?_;have X:=noX;have hC':=congrArg List.length hC
  have X:=And.intro X hA2
  (refine run ?_;with_reducible repeat' first|exact trivial|(apply Fork.mk<;>intro hb)|apply Two.mk)
  refine go_loop (fun z:Nat×Int=>[(1,.int .i64 A),(2,.ptr H.length 0 0 0),(6,.int .i64 z.2),(7,.int .i64 z.1)]) (fun _=>H++[.cells 0 8 [.agg [.int .i64 k,.str s,.int .i64 n,.int .i64 o,.list 1 (l.map .str),.list 8 (exCells subs),.list 9 (bdCells binds),.list 12 (alCells alts)]]]) (fun z=>pp.length - z.1) (fun z=>z.1≤pp.length∧1≤z.2∧z.2≤2000) (0,1) ⟨Nat.zero_le _,Int.le_refl _,by omega⟩ ?_ ?_
  ·exact Wk.sub (by simp[subEnv,look])
  rintro K ⟨i,m⟩ ⟨hi1,hi2,hi3⟩ hK
  simp only at hi1 hi2 hi3
  by_cases h1:i<subs.length
  ·have hx:(exCells subs)[i]? =some (.agg subs[i].cells):=by simp[exCells_map,h1,Ex.sv]
   have hc:=hrec subs[i] (by rw[hP];exact List.mem_append_left _ (List.getElem_mem h1))
   have e3:=subs[i].cells_len
   have e4:=subs[i].cells_take
   generalize subs[i]=x at*
   have X:=And.intro noX (And.intro hx (And.intro e3 (And.intro e4 (And.intro (show(i:Int)<(subs.length:Int)+binds.length+alts.length by omega) (show(i:Int) - subs.length<0 by omega)))))
   (refine run ?_;with_reducible repeat' first|exact trivial|(apply Fork.mk<;>intro hb)|apply Two.mk)
   refine callS (hc _) ?_
   rintro r H' ⟨rfl,m2,bb,rfl,b1,b2⟩
   cases bb with
   |false=>
    have X:=noX
    (refine run ?_;with_reducible repeat' first|exact trivial|(apply Fork.mk<;>intro hb)|apply Two.mk)
    exact finS (n0:=H.length) hR hC' hcl (.same _ rfl) ⟨rfl,_,false,rfl,by omega,by omega⟩
   |true=>
    have X:=noX
    (refine run ?_;with_reducible repeat' first|exact trivial|(apply Fork.mk<;>intro hb)|apply Two.mk)
    ·exact finS (n0:=H.length) hR hC' hcl (.same _ rfl) ⟨rfl,_,false,rfl,by omega,by omega⟩
    ·refine hK _ _ (i+1,m+m2) (show pp.length - (i+1)<pp.length - i by omega) ⟨show i+1≤pp.length by omega,show 1≤m+m2 by omega,show m+m2≤2000 by omega⟩ ?_
     exact wkS (n0:=H.length) [(H.length,0)] hG hB hC' hcl
  by_cases h2:i<subs.length+binds.length
  ·obtain⟨j,hj⟩:∃ j,i=subs.length+j:=⟨i - subs.length,by omega⟩
   have hjl:j<binds.length:=by omega
   have hx:(bdCells binds)[j]? =some (.agg (.str binds[j].name::binds[j].e.cells)):=by simp[bdCells_map,hjl,Bd.sv,Bd.cells_eq]
   have hc:=hrec binds[j].e (by rw[hP];exact List.mem_append_right _ (List.mem_append_left _ (List.mem_map_of_mem (List.getElem_mem hjl))))
   have e3:=binds[j].e.cells_len
   have e4:=binds[j].e.cells_take
   generalize binds[j].e=x at*
   generalize binds[j].name=xn at*
   have X:=And.intro noX (And.intro hx (And.intro e3 (And.intro e4 (And.intro (show(i:Int)<(subs.length:Int)+binds.length+alts.length by omega) (And.intro (show(i:Int) - subs.length=j by omega) (And.intro (show ¬ (j:Int)<0 by omega) (show(j:Int)<binds.length by omega)))))))
   (refine run ?_;with_reducible repeat' first|exact trivial|(apply Fork.mk<;>intro hb)|apply Two.mk)
   refine callS (hc _) ?_
   rintro r H' ⟨rfl,m2,bb,rfl,b1,b2⟩
   cases bb with
   |false=>
    have X:=noX
    (refine run ?_;with_reducible repeat' first|exact trivial|(apply Fork.mk<;>intro hb)|apply Two.mk)
    exact finS (n0:=H.length) hR hC' hcl (.same _ rfl) ⟨rfl,_,false,rfl,by omega,by omega⟩
   |true=>
    have X:=noX
    (refine run ?_;with_reducible repeat' first|exact trivial|(apply Fork.mk<;>intro hb)|apply Two.mk)
    ·exact finS (n0:=H.length) hR hC' hcl (.same _ rfl) ⟨rfl,_,false,rfl,by omega,by omega⟩
    ·refine hK _ _ (i+1,m+m2) (show pp.length - (i+1)<pp.length - i by omega) ⟨show i+1≤pp.length by omega,show 1≤m+m2 by omega,show m+m2≤2000 by omega⟩ ?_
     exact wkS (n0:=H.length) [(H.length,0)] hG hB hC' hcl
  by_cases h3:i<pp.length
  ·obtain⟨j,hj⟩:∃ j,i=subs.length+binds.length+j:=⟨i - subs.length - binds.length,by omega⟩
   have hjl:j<alts.length:=by omega
   have hx:(alCells alts)[j]? =some (.agg (.int .i64 alts[j].kind:: .str alts[j].name:: .int .i64 alts[j].n:: .list 1 (alts[j].names.map .str)::alts[j].body.cells)):=by simp[alCells_map,hjl,Al.sv,Al.cells_eq]
   have hc:=hrec alts[j].body (by rw[hP];exact List.mem_append_right _ (List.mem_append_right _ (List.mem_map_of_mem (List.getElem_mem hjl))))
   have e3:=alts[j].body.cells_len
   have e4:=alts[j].body.cells_take
   generalize alts[j]=al at*
   obtain⟨ak,an,ann,als,x⟩:=al
   simp only[Al.kind,Al.name,Al.n,Al.names,Al.body] at hx hc e3 e4
   have X:=And.intro noX (And.intro hx (And.intro e3 (And.intro e4 (And.intro (show(i:Int)<(subs.length:Int)+binds.length+alts.length by omega) (And.intro (show(i:Int) - subs.length=((binds.length+j:Nat):Int) by omega) (And.intro (show((binds.length+j:Nat):Int) - binds.length=j by omega) (And.intro (show ¬ ((binds.length+j:Nat):Int)<0 by omega) (show ¬ ((binds.length+j:Nat):Int)<binds.length by omega))))))))
   (refine run ?_;with_reducible repeat' first|exact trivial|(apply Fork.mk<;>intro hb)|apply Two.mk)
   refine callS (hc _) ?_
   rintro r H' ⟨rfl,m2,bb,rfl,b1,b2⟩
   cases bb with
   |false=>
    have X:=noX
    (refine run ?_;with_reducible repeat' first|exact trivial|(apply Fork.mk<;>intro hb)|apply Two.mk)
    exact finS (n0:=H.length) hR hC' hcl (.same _ rfl) ⟨rfl,_,false,rfl,by omega,by omega⟩
   |true=>
    have X:=noX
    (refine run ?_;with_reducible repeat' first|exact trivial|(apply Fork.mk<;>intro hb)|apply Two.mk)
    ·exact finS (n0:=H.length) hR hC' hcl (.same _ rfl) ⟨rfl,_,false,rfl,by omega,by omega⟩
    ·refine hK _ _ (i+1,m+m2) (show pp.length - (i+1)<pp.length - i by omega) ⟨show i+1≤pp.length by omega,show 1≤m+m2 by omega,show m+m2≤2000 by omega⟩ ?_
     exact wkS (n0:=H.length) [(H.length,0)] hG hB hC' hcl
  clear hK
  have X:=And.intro noX (show ¬ (i:Int)<(subs.length:Int)+binds.length+alts.length by omega)
  (refine run ?_;with_reducible repeat' first|exact trivial|(apply Fork.mk<;>intro hb)|apply Two.mk)
  exact finS (n0:=H.length) hR hC' hcl (.same _ rfl) ⟨rfl,_,true,rfl,by omega,by omega⟩
def RowFew (r:Rw):Prop:=r.pats.length≤20∧∀ p∈r.pats,p.wt≤2000
def FewP (t:Tb) (rows:List Rw):Prop:=rows.length≤30∧(∀ r∈rows,RowFew r)∧∀ c∈t.cons,c.arity≤100
theorem few_ok (G:Gl) (hG:GClosed G) (t:Tb) (rows:List Rw) (H:List Blk) (h1:t.cons.length<4294967296) (h2:t.labels.length<4294967296) (h4:rows.length<4294967296) (hb:∀ r∈rows,r.body.wt<2147483648∧r.pats.length<4294967296∧∀ p∈r.pats,p.wt<2147483648):
 ACall Tryd.prog G 4 [.list 9 (rwCells rows),.agg [.list 4 (cnCells t.cons),.list 3 (lbCells t.labels)]] H (fun r H'=>H'=H∧∃ b:Bool,r= .bool b∧(b=true→FewP t rows)):=by
 have q2:=rwCells_len rows
 have q3:=cnCells_len t.cons
 have q4:=lbCells_len t.labels
 have u1:=cnCells_under H.length t.cons
 have u2:=lbCells_under H.length t.labels
 have u3:SV.underL H.length (rwCells rows)=true:=SV.underL_map fun x _=>by simp[Rw.sv,Rw.cells,SV.under,SV.underL,x.body.cells_under,ndCells_under]
 refine ACall.of_go TB [] tabOK _ Tryd.func4 rfl (by decide) Tryd.ntmps4 (by simp) rfl (by simp only[initEnv,Nat.reduceAdd];rfl) fun C R' hR hC hcl hB=>?_;have X:=noX;have hC':=congrArg List.length hC
 have X0:=And.intro noX (And.intro q2 (And.intro q3 q4))
 by_cases hl:rows.length≤30
 case neg=>
  have X:=And.intro X0 (show(30:Int)<rows.length by omega)
  (refine run ?_;with_reducible repeat' first|exact trivial|(apply Fork.mk<;>intro hb)|apply Two.mk)
  exact finS (n0:=H.length) hR hC' hcl (.same _ rfl) ⟨rfl,false,rfl,fun h=>by cases h⟩
 by_cases hl2:t.cons.length≤100
 case neg=>
  have X:=And.intro X0 (And.intro (show ¬ (30:Int)<rows.length by omega) (show(100:Int)<t.cons.length by omega))
  (refine run ?_;with_reducible repeat' first|exact trivial|(apply Fork.mk<;>intro hb)|apply Two.mk)
  exact finS (n0:=H.length) hR hC' hcl (.same _ rfl) ⟨rfl,false,rfl,fun h=>by cases h⟩
 by_cases hl3:t.labels.length≤100
 case neg=>
  have X:=And.intro X0 (And.intro (show ¬ (30:Int)<rows.length by omega) (And.intro (show ¬ (100:Int)<t.cons.length by omega) (show(100:Int)<t.labels.length by omega)))
  (refine run ?_;with_reducible repeat' first|exact trivial|(apply Fork.mk<;>intro hb)|apply Two.mk)
  exact finS (n0:=H.length) hR hC' hcl (.same _ rfl) ⟨rfl,false,rfl,fun h=>by cases h⟩
 have X:=And.intro X0 (And.intro (show ¬ (30:Int)<rows.length by omega) (And.intro (show ¬ (100:Int)<t.cons.length by omega) (show ¬ (100:Int)<t.labels.length by omega)))
 (refine run ?_;with_reducible repeat' first|exact trivial|(apply Fork.mk<;>intro hb)|apply Two.mk)
 refine go_loop (fun i:Nat=>[(0,.list 9 (rwCells rows)),(3,.ptr H.length 0 0 0),(5,.int .i64 i)]) (fun _=>H++[.cells 0 2 [.agg [.list 4 (cnCells t.cons),.list 3 (lbCells t.labels)]]]) (fun i=>rows.length - i) (fun i=>i≤rows.length∧∀ r∈rows.take i,RowFew r) 0 ⟨Nat.zero_le _,by simp⟩ ?_ ?_
 ·exact Wk.sub (by simp[subEnv,look])
 rintro K i ⟨hi,hall⟩ hK
 rcases Nat.lt_or_ge i rows.length with hlt|hge
 ·have e1:(rwCells rows)[i]? =some (.agg (.list 6 (ndCells rows[i].pats)::rows[i].body.cells)):=by rw[rwCells_get2,List.getElem?_eq_getElem hlt];rfl
  obtain⟨b1,b2,b3⟩:=hb rows[i] (List.getElem_mem hlt)
  have hall2:RowFew rows[i]→∀ r∈rows.take (i+1),RowFew r:=fun h r hr=>by
   rw[List.take_succ_eq_append_getElem hlt] at hr
   rcases List.mem_append.1 hr with hr|hr
   ·exact hall r hr
   ·rw[List.mem_singleton.1 hr];exact h
  generalize rows[i]=r at*
  obtain⟨ps,body⟩:=r
  simp only at e1 b1 b2 b3
  have hcb:=fun H2=>body_ok G hG 101 body H2 (by omega) (Nat.le_refl _)
  rw[show(101:Int) - ((101:Nat):Int)=0 from rfl] at hcb
  have hcr:=fun H2=>right_ok G hG body H2 (by omega)
  have e3:=body.cells_len
  have e4:=body.cells_take
  have q5:=ndCells_len ps
  have X1:=And.intro X0 (And.intro (show(i:Int)<rows.length by omega) (And.intro e1 (And.intro e3 (And.intro e4 q5))))
  have X:=X1
  (refine run ?_;with_reducible repeat' first|exact trivial|(apply Fork.mk<;>intro hb)|apply Two.mk)
  refine callS (hcb _) ?_
  rintro r H' ⟨rfl,m2,bb,rfl,_,_⟩
  cases bb with
  |false=>
   have X:=X1
   (refine run ?_;with_reducible repeat' first|exact trivial|(apply Fork.mk<;>intro hb)|apply Two.mk)
   exact finS (n0:=H.length) hR hC' hcl (.same _ rfl) ⟨rfl,false,rfl,fun h=>by cases h⟩
  |true=>
  have X:=X1
  (refine run ?_;with_reducible repeat' first|exact trivial|(apply Fork.mk<;>intro hb)|apply Two.mk)
  refine callS (hcr _) ?_
  rintro r H' ⟨rfl,bb,rfl⟩
  cases bb with
  |false=>
   have X:=X1
   (refine run ?_;with_reducible repeat' first|exact trivial|(apply Fork.mk<;>intro hb)|apply Two.mk)
   exact finS (n0:=H.length) hR hC' hcl (.same _ rfl) ⟨rfl,false,rfl,fun h=>by cases h⟩
  |true=>
  by_cases hp20:ps.length≤20
  case neg=>
   have X:=And.intro X1 (show(20:Int)<ps.length by omega)
   (refine run ?_;with_reducible repeat' first|exact trivial|(apply Fork.mk<;>intro hb)|apply Two.mk)
   exact finS (n0:=H.length) hR hC' hcl (.same _ rfl) ⟨rfl,false,rfl,fun h=>by cases h⟩
  have X:=And.intro X1 (show ¬ (20:Int)<ps.length by omega)
  (refine run ?_;with_reducible repeat' first|exact trivial|(apply Fork.mk<;>intro hb)|apply Two.mk)
  refine go_loop (fun k:Nat=>[(0,.list 9 (rwCells rows)),(3,.ptr H.length 0 0 0),(5,.int .i64 i),(8,.int .i64 k)]) (fun _=>H++[.cells 0 2 [.agg [.list 4 (cnCells t.cons),.list 3 (lbCells t.labels)]]]) (fun k=>ps.length - k) (fun k=>k≤ps.length∧∀ p∈ps.take k,p.wt≤2000) 0 ⟨Nat.zero_le _,by simp⟩ ?_ ?_
  ·exact wkS (n0:=H.length) [(H.length,0)] hG hB hC' hcl
  rintro K2 k ⟨hk,hallk⟩ hK2
  rcases Nat.lt_or_ge k ps.length with hltk|hgek
  ·have e5:(ndCells ps)[k]? =some (.agg ps[k].cells):=by rw[ndCells_get2,List.getElem?_eq_getElem hltk];rfl
   have b4:=b3 ps[k] (List.getElem_mem hltk)
   have hall3:ps[k].wt≤2000→∀ p∈ps.take (k+1),p.wt≤2000:=fun h p hp=>by
    rw[List.take_succ_eq_append_getElem hltk] at hp
    rcases List.mem_append.1 hp with hp|hp
    ·exact hallk p hp
    ·rw[List.mem_singleton.1 hp];exact h
   have e6:=ps[k].cells_len
   have e7:=ps[k].cells_take
   generalize ps[k]=p at*
   have hcs:=fun H2=>small_ok G hG 101 p H2 (by omega) (Nat.le_refl _)
   rw[show(101:Int) - ((101:Nat):Int)=0 from rfl] at hcs
   have X:=And.intro X1 (And.intro (show(k:Int)<ps.length by omega) (And.intro e5 (And.intro e6 e7)))
   (refine run ?_;with_reducible repeat' first|exact trivial|(apply Fork.mk<;>intro hb)|apply Two.mk)
   refine callS (hcs _) ?_
   rintro r H' ⟨rfl,m2,bb,rfl,_,_,hm⟩
   cases bb with
   |false=>
    have X:=X1
    (refine run ?_;with_reducible repeat' first|exact trivial|(apply Fork.mk<;>intro hb)|apply Two.mk)
    exact finS (n0:=H.length) hR hC' hcl (.same _ rfl) ⟨rfl,false,rfl,fun h=>by cases h⟩
   |true=>
    have X:=X1
    (refine run ?_;with_reducible repeat' first|exact trivial|(apply Fork.mk<;>intro hb)|apply Two.mk)
    refine hK2 _ _ (k+1) (by omega) ⟨by omega,hall3 (hm rfl).2⟩ ?_
    exact wkS (n0:=H.length) [(H.length,0)] hG hB hC' hcl
  obtain rfl:k=ps.length:=by omega
  rw[List.take_length] at hallk
  clear hK2
  have X:=And.intro X1 (Int.lt_irrefl (ps.length:Int))
  (refine run ?_;with_reducible repeat' first|exact trivial|(apply Fork.mk<;>intro hb)|apply Two.mk)
  refine hK _ _ (i+1) (by omega) ⟨by omega,hall2 ⟨hp20,hallk⟩⟩ ?_
  exact wkS (n0:=H.length) [(H.length,0)] hG hB hC' hcl
 obtain rfl:i=rows.length:=by omega
 rw[List.take_length] at hall
 clear hK
 have X:=And.intro X0 (Int.lt_irrefl (rows.length:Int))
 (refine run ?_;with_reducible repeat' first|exact trivial|(apply Fork.mk<;>intro hb)|apply Two.mk)
 refine go_loop (fun i:Nat=>[(3,.ptr H.length 0 0 0),(11,.int .i64 i)]) (fun _=>H++[.cells 0 2 [.agg [.list 4 (cnCells t.cons),.list 3 (lbCells t.labels)]]]) (fun i=>t.cons.length - i) (fun i=>i≤t.cons.length∧∀ c∈t.cons.take i,c.arity≤100) 0 ⟨Nat.zero_le _,by simp⟩ ?_ ?_
 ·exact Wk.sub (by simp[subEnv,look])
 rintro K i ⟨hi,hallc⟩ hK
 rcases Nat.lt_or_ge i t.cons.length with hlt|hge
 ·have e1:(cnCells t.cons)[i]? =some (.agg [.str t.cons[i].name,.int .i64 t.cons[i].arity,.int .i64 t.cons[i].tag,.int .i64 t.cons[i].family]):=by rw[cnCells_get2,List.getElem?_eq_getElem hlt];rfl
  have hall3:t.cons[i].arity≤100→∀ p∈t.cons.take (i+1),p.arity≤100:=fun h p hp=>by
   rw[List.take_succ_eq_append_getElem hlt] at hp
   rcases List.mem_append.1 hp with hp|hp
   ·exact hallc p hp
   ·rw[List.mem_singleton.1 hp];exact h
  generalize t.cons[i]=c at*
  by_cases hc:c.arity≤100
  ·have X:=And.intro X0 (And.intro (show(i:Int)<t.cons.length by omega) (And.intro e1 (show ¬ 100<c.arity by omega)))
   (refine run ?_;with_reducible repeat' first|exact trivial|(apply Fork.mk<;>intro hb)|apply Two.mk)
   refine hK _ _ (i+1) (by omega) ⟨by omega,hall3 hc⟩ ?_
   exact Wk.sub (by simp[subEnv,look])
  ·have X:=And.intro X0 (And.intro (show(i:Int)<t.cons.length by omega) (And.intro e1 (show 100<c.arity by omega)))
   (refine run ?_;with_reducible repeat' first|exact trivial|(apply Fork.mk<;>intro hb)|apply Two.mk)
   exact finS (n0:=H.length) hR hC' hcl (.same _ rfl) ⟨rfl,false,rfl,fun h=>by cases h⟩
 obtain rfl:i=t.cons.length:=by omega
 rw[List.take_length] at hallc
 clear hK
 have X:=And.intro X0 (Int.lt_irrefl (t.cons.length:Int))
 (refine run ?_;with_reducible repeat' first|exact trivial|(apply Fork.mk<;>intro hb)|apply Two.mk)
 exact finS (n0:=H.length) hR hC' hcl (.same _ rfl) ⟨rfl,true,rfl,fun _=>⟨hl,hall,hallc⟩⟩
theorem has10_list (G:Gl) (l:List Str) (v:Str) (H:List Blk) (hl:l.length<4611686018427387904):
 ACall Tryd.prog G 7 [.list 1 (l.map .str),.str v] H (fun r H'=>H'=H∧r= .bool (decide (v∈l))):=by
 refine ACall.of_go TB [] tabOK _ Tryd.func7 rfl (by decide) Tryd.ntmps7 (by simp) rfl (by simp only[initEnv,Nat.reduceAdd];rfl) fun C R' hR hC hcl hB=>?_;have X:=noX;have hC':=congrArg List.length hC
 (refine runO ?_;with_reducible repeat' first|exact trivial|(apply Fork.mk<;>intro hb)|apply Two.mk)
 refine go_loop (fun i:Nat=>[(0,.list 1 (l.map .str)),(1,.str v),(5,.int .i64 i)]) (fun _=>H) (fun i=>l.length - i) (fun i=>i≤l.length∧v∉l.take i) 0 (by simp) (Wk.sub (by simp[subEnv,look])) ?_
 intro K i hi hK
 (refine runO ?_;with_reducible repeat' first|exact trivial|(apply Fork.mk<;>intro hb)|apply Two.mk)
 ·have hi':i<l.length:=by omega
  exact Fin.out hR ⟨rfl,by rw[decide_eq_true (by rw[← hb];exact List.getElem_mem hi')];rfl⟩
 ·have hi':i<l.length:=by omega
  exact hK _ _ (i+1) (by omega) ⟨hi',by rw[List.take_succ_eq_append_getElem hi',List.mem_append];simp only[hi.2,List.mem_singleton,false_or];exact fun h=>hb h.symm⟩ (Wk.sub (by simp[subEnv,look]))
 ·have:l.take i=l:=List.take_of_length_le (by omega)
  exact Fin.out hR ⟨rfl,by rw[decide_eq_false (by rw[← this];exact hi.2)];rfl⟩
def cn (s:Str) (a t f:Int):Cn:=⟨s,a,t,f⟩
def table0:Tb:=⟨[cn [80,114,105,109,46,70,97,108,115,101] 0 0 2,cn [80,114,105,109,46,84,114,117,101] 0 1 2,cn unitN 0 0 1,cn [80,114,105,109,46,66,111,120] 1 0 1,cn pairN 2 0 1,cn emptyN 0 0 2,cn consN 2 1 2],[]⟩
theorem table_ok (G:Gl) (hG:GClosed G) (H:List Blk):ACall Tryd.prog G 15 [] H (fun r H'=>H'=H∧r= .agg [.list 4 (cnCells table0.cons),.list 3 (lbCells table0.labels)]):=by
 refine ACall.of_go TB [] tabOK _ Tryd.func15 rfl (by decide) Tryd.ntmps15 (by simp) rfl (by simp only[initEnv,Nat.reduceAdd];rfl) fun C R' hR hC hcl hB=>?_;have X:=noX;have hC':=congrArg List.length hC
 (refine run ?_;with_reducible repeat' first|exact trivial|(apply Fork.mk<;>intro hb)|apply Two.mk)
 exact finS (n0:=H.length) hR hC' hcl (.same _ rfl) ⟨rfl,rfl⟩
theorem v_ok (G:Gl) (hG:GClosed G) (s:Str) (H:List Blk):ACall Tryd.prog G 14 [.str s] H (fun r H'=>H'=H∧r= .agg (varE s).cells):=by
 refine ACall.of_go TB [] tabOK _ Tryd.func14 rfl (by decide) Tryd.ntmps14 (by simp) rfl (by simp only[initEnv,Nat.reduceAdd];rfl) fun C R' hR hC hcl hB=>?_;have X:=noX;have hC':=congrArg List.length hC
 (refine run ?_;with_reducible repeat' first|exact trivial|(apply Fork.mk<;>intro hb)|apply Two.mk)
 exact finS (n0:=H.length) hR hC' hcl (.same _ rfl) ⟨rfl,rfl⟩
def litE (n:Int):Ex:= .mk 2 [] n 0 [] [] [] []
def rowOne:Rw:=⟨[.mk 44 [] 1 0 0 []],litE 7⟩
def rowTwo:Rw:=⟨[.mk 42 [121] 0 0 0 []],varE [121]⟩
def rowTup:Rw:=⟨[.mk 48 [] 0 0 0 [.mk 42 [97] 0 0 0 [],.mk 43 [] 0 0 0 []]],varE [97]⟩
def m1:Str:=[109,35,49]
def m2:Str:=[109,35,50]
def m3:Str:=[109,35,51]
def ansA:Ex:=letE m1 (lamE m2 (letE [121] (varE [120]) (varE [121]))) (ofE [120] m3 [litA 1 (litE 7),otherA (appE m1)])
def ansB:Ex:=ofE [120] m1 [conA pairN [m2,m3] (letE [97] (varE m2) (varE [97]))]
theorem nm1:nmN 1=m1:=by kernel_rfl
theorem exmA:rowsF table0 [[120]] [rowOne,rowTwo] 1=(ansA,4):=by kernel_rfl
theorem exmB:rowsF table0 [[120]] [rowTup] 1=(ansB,4):=by kernel_rfl
theorem exmC:rowsF table0 [] [] 1=(raiseE,1):=by kernel_rfl
theorem badA:badF table0 [[120]] 1 [rowOne,rowTwo]=false:=by kernel_rfl
theorem badB:badF table0 [[120]] 1 [rowTup]=false:=by kernel_rfl
theorem badC:badF table0 [] 1 []=false:=by kernel_rfl
theorem sureT:(rgtF table0 ((Nd.mk 48 [] 0 0 0 [.mk 42 [97] 0 0 0 [],.mk 43 [] 0 0 0 []]).msr+1) (.mk 48 [] 0 0 0 [.mk 42 [97] 0 0 0 [],.mk 43 [] 0 0 0 []])).2=true:=by kernel_rfl
theorem sureO:(rgtF table0 ((Nd.mk 44 [] 1 0 0 []).msr+1) (.mk 44 [] 1 0 0 [])).2=false:=by kernel_rfl
theorem RepL.last2_nil {c:Cx} {a b:SV} {vs:List Value} (h:RepL c [a,.nil,b,.nil] vs) (s t:Nat):RepL c [a,.list s [],b,.list t []] vs:=by
 obtain⟨v1,r1,a1,a2,rfl⟩:=RepL.cons_iff.1 h
 obtain⟨v2,r2,b1,b2,rfl⟩:=RepL.cons_iff.1 a2
 obtain⟨v3,r3,c1,c2,rfl⟩:=RepL.cons_iff.1 b2
 obtain⟨v4,r4,d1,d2,rfl⟩:=RepL.cons_iff.1 c2
 exact RepL.mk_cons a1 (RepL.mk_cons (Rep.nil_list b1) (RepL.mk_cons c1 (RepL.mk_cons (Rep.nil_list d1) d2)))
theorem awake_ok (G:Gl) (hG:GClosed G) (C0:Cx) (hb0:G.base=some C0) (hL:LibAt C0) (H:List Blk):ACall Tryd.prog G 5 [] H (fun r H'=>H'=H∧r= .bool true):=by
 have har:∀ c∈table0.cons,c.arity≤100:=by decide
 have cA:=fun H2=>Compile_ok G hG C0 hb0 hL table0 har [[120]] 1 [rowOne,rowTwo] H2 (by decide) (by decide) (by decide) (by decide) (by decide) (by decide) (by decide)
 have cB:=fun H2=>Compile_ok G hG C0 hb0 hL table0 har [[120]] 1 [rowTup] H2 (by decide) (by decide) (by decide) (by decide) (by decide) (by decide) (by decide)
 have cC:=fun H2=>(Compile_ok G hG C0 hb0 hL table0 har [] 1 [] H2 (by decide) (by decide) (by decide) (by decide) (by simp) (by simp) (by decide)).argsOf (args':=[.agg [.list 4 (cnCells table0.cons),.list 3 (lbCells table0.labels)],.nil,.int .i64 1,.nil]) (fun c vs h=>RepL.last2_nil h 1 9)
 have cS:=fun H2=>Sure_ok G hG table0 (.mk 48 [] 0 0 0 [.mk 42 [97] 0 0 0 [],.mk 43 [] 0 0 0 []]) H2 (by decide) (by decide) (by decide)
 have cO:=fun H2=>Sure_ok G hG table0 (.mk 44 [] 1 0 0 []) H2 (by decide) (by decide) (by decide)
 have cT:=fun H2=>table_ok G hG H2
 have cV:=fun s H2=>v_ok G hG s H2
 simp only[badA,exmA,Bool.false_eq_true,if_false] at cA
 simp only[rowOne,rowTwo,rowTup,rwCells,List.map_cons,List.map_nil,Rw.sv,Rw.cells,ndCells,Nd.cells,litE,varE,Ex.cells,exCells,bdCells,Bd.cells,alCells,Al.cells,ansA,ansB,raiseE,letE,lamE,ofE,litA,otherA,appE,conA,m1,m2,m3,unitN,pairN] at cA
 simp only[badB,exmB,Bool.false_eq_true,if_false] at cB
 simp only[rowOne,rowTwo,rowTup,rwCells,List.map_cons,List.map_nil,Rw.sv,Rw.cells,ndCells,Nd.cells,litE,varE,Ex.cells,exCells,bdCells,Bd.cells,alCells,Al.cells,ansA,ansB,raiseE,letE,lamE,ofE,litA,otherA,appE,conA,m1,m2,m3,unitN,pairN] at cB
 simp only[badC,exmC,Bool.false_eq_true,if_false] at cC
 simp only[rowOne,rowTwo,rowTup,rwCells,List.map_cons,List.map_nil,Rw.sv,Rw.cells,ndCells,Nd.cells,litE,varE,Ex.cells,exCells,bdCells,Bd.cells,alCells,Al.cells,ansA,ansB,raiseE,letE,lamE,ofE,litA,otherA,appE,conA,m1,m2,m3,unitN,pairN] at cC
 simp only[sureT] at cS
 simp only[rowOne,rowTwo,rowTup,rwCells,List.map_cons,List.map_nil,Rw.sv,Rw.cells,ndCells,Nd.cells,litE,varE,Ex.cells,exCells,bdCells,Bd.cells,alCells,Al.cells,ansA,ansB,raiseE,letE,lamE,ofE,litA,otherA,appE,conA,m1,m2,m3,unitN,pairN] at cS
 simp only[sureO] at cO
 simp only[rowOne,rowTwo,rowTup,rwCells,List.map_cons,List.map_nil,Rw.sv,Rw.cells,ndCells,Nd.cells,litE,varE,Ex.cells,exCells,bdCells,Bd.cells,alCells,Al.cells,ansA,ansB,raiseE,letE,lamE,ofE,litA,otherA,appE,conA,m1,m2,m3,unitN,pairN] at cO
 simp only[rowOne,rowTwo,rowTup,rwCells,List.map_cons,List.map_nil,Rw.sv,Rw.cells,ndCells,Nd.cells,litE,varE,Ex.cells,exCells,bdCells,Bd.cells,alCells,Al.cells,ansA,ansB,raiseE,letE,lamE,ofE,litA,otherA,appE,conA,m1,m2,m3,unitN,pairN] at cV
 have u1:=cnCells_under H.length table0.cons
 generalize cnCells table0.cons=TC at*
 generalize lbCells table0.labels=TL at*
 refine ACall.of_go TB [] tabOK _ Tryd.func5 rfl (by decide) Tryd.ntmps5 (by simp) rfl (by simp only[initEnv,Nat.reduceAdd];rfl) fun C R' hR hC hcl hB=>?_;have X:=noX;have hC':=congrArg List.length hC
 have c1:=cT
 have c2:=cV
 have c3:=cA
 (refine runD ?_;with_reducible repeat' first|exact trivial|(apply Fork.mk<;>intro hb)|apply Two.mk)
 refine go_cut (fun _:Unit=>[(1,.ptr H.length 0 0 0),(2,.ptr (H.length+1) 0 0 0),(3,.ptr (H.length+2) 0 0 0),(4,.int .i64 4),(5,.int .i64 0)]) (fun _=>H++[.cells 0 9 [.agg [.list 6 [.agg [.int .i64 44,.str [],.int .i64 1,.int .i64 0,.int .i64 0,.list 6 []]],.int .i64 2,.str [],.int .i64 7,.int .i64 0,.list 1 [],.list 8 [],.list 9 [],.list 12 []]],.cells 0 9 [.agg [.list 6 [.agg [.int .i64 42,.str [121],.int .i64 0,.int .i64 0,.int .i64 0,.list 6 []]],.int .i64 1,.str [121],.int .i64 0,.int .i64 0,.list 1 [],.list 8 [],.list 9 [],.list 12 []]],.cells 0 8 [.agg ansA.cells]]) (fun _=>True) (fun K hK=>?_) (fun _ _=>?_)
 ·(refine run ?_;with_reducible repeat' first|exact trivial|(apply Fork.mk<;>intro hb)|apply Two.mk)
  all_goals
   refine hK _ _ () trivial ?_
   simp only[rowOne,rowTwo,rowTup,rwCells,List.map_cons,List.map_nil,Rw.sv,Rw.cells,ndCells,Nd.cells,litE,varE,Ex.cells,exCells,bdCells,Bd.cells,alCells,Al.cells,ansA,ansB,raiseE,letE,lamE,ofE,litA,otherA,appE,conA,m1,m2,m3,unitN,pairN]
   exact Wk.sub (by simp[subEnv,look])
 simp only[rowOne,rowTwo,rowTup,rwCells,List.map_cons,List.map_nil,Rw.sv,Rw.cells,ndCells,Nd.cells,litE,varE,Ex.cells,exCells,bdCells,Bd.cells,alCells,Al.cells,ansA,ansB,raiseE,letE,lamE,ofE,litA,otherA,appE,conA,m1,m2,m3,unitN,pairN]
 clear c3
 have c3:=cB
 (refine runD ?_;with_reducible repeat' first|exact trivial|(apply Fork.mk<;>intro hb)|apply Two.mk)
 refine go_cut (fun _:Unit=>[(1,.ptr H.length 0 0 0),(2,.ptr (H.length+1) 0 0 0),(3,.ptr (H.length+2) 0 0 0),(4,.int .i64 4),(5,.int .i64 0),(6,.ptr (H.length+3) 0 0 0),(7,.ptr (H.length+4) 0 0 0),(8,.int .i64 4),(9,.int .i64 0)]) (fun _=>H++[.cells 0 9 [.agg [.list 6 [.agg [.int .i64 44,.str [],.int .i64 1,.int .i64 0,.int .i64 0,.list 6 []]],.int .i64 2,.str [],.int .i64 7,.int .i64 0,.list 1 [],.list 8 [],.list 9 [],.list 12 []]],.cells 0 9 [.agg [.list 6 [.agg [.int .i64 42,.str [121],.int .i64 0,.int .i64 0,.int .i64 0,.list 6 []]],.int .i64 1,.str [121],.int .i64 0,.int .i64 0,.list 1 [],.list 8 [],.list 9 [],.list 12 []]],.cells 0 8 [.agg ansA.cells],.cells 0 9 [.agg [.list 6 [.agg [.int .i64 48,.str [],.int .i64 0,.int .i64 0,.int .i64 0,.list 6 [.agg [.int .i64 42,.str [97],.int .i64 0,.int .i64 0,.int .i64 0,.list 6 []],.agg [.int .i64 43,.str [],.int .i64 0,.int .i64 0,.int .i64 0,.list 6 []]]]],.int .i64 1,.str [97],.int .i64 0,.int .i64 0,.list 1 [],.list 8 [],.list 9 [],.list 12 []]],.cells 0 8 [.agg ansB.cells]]) (fun _=>True) (fun K hK=>?_) (fun _ _=>?_)
 ·(refine run ?_;with_reducible repeat' first|exact trivial|(apply Fork.mk<;>intro hb)|apply Two.mk)
  all_goals
   refine hK _ _ () trivial ?_
   simp only[rowOne,rowTwo,rowTup,rwCells,List.map_cons,List.map_nil,Rw.sv,Rw.cells,ndCells,Nd.cells,litE,varE,Ex.cells,exCells,bdCells,Bd.cells,alCells,Al.cells,ansA,ansB,raiseE,letE,lamE,ofE,litA,otherA,appE,conA,m1,m2,m3,unitN,pairN]
   exact Wk.sub (by simp[subEnv,look])
 simp only[rowOne,rowTwo,rowTup,rwCells,List.map_cons,List.map_nil,Rw.sv,Rw.cells,ndCells,Nd.cells,litE,varE,Ex.cells,exCells,bdCells,Bd.cells,alCells,Al.cells,ansA,ansB,raiseE,letE,lamE,ofE,litA,otherA,appE,conA,m1,m2,m3,unitN,pairN]
 clear c3 c2
 have c3:=cC
 have c4:=cS
 have c5:=cO
 (refine run ?_;with_reducible repeat' first|exact trivial|(apply Fork.mk<;>intro hb)|apply Two.mk)
 exact finS (n0:=H.length) hR hC' hcl (.same _ rfl) ⟨rfl,rfl⟩
theorem le_mulk {k:Nat} (hk:0<k) (n:Nat):n≤k*n:=Nat.le_mul_of_pos_left n hk
theorem exsWt_mul {k:Nat} {f:Ex→Ex}:∀ {l:List Ex},(∀ x∈l,(f x).wt≤k*x.wt)→exsWt (l.map f)≤k*exsWt l
 |[],_=>by simp[exsWt]
 |x::l,h=>by
  have h1:=h x (List.mem_cons_self ..)
  have h2:=exsWt_mul fun y hy=>h y (List.mem_cons_of_mem _ hy)
  simp only[List.map_cons,exsWt,Nat.mul_add];omega
theorem bdsWt_mul {k:Nat} (hk:0<k) {f:Bd→Ex}:∀ {l:List Bd},(∀ b∈l,(f b).wt≤k*b.e.wt)→bdsWt (l.map fun b=>Bd.mk b.name (f b))≤k*bdsWt l
 |[],_=>by simp[bdsWt]
 |x::l,h=>by
  have h1:=h x (List.mem_cons_self ..)
  have h2:=bdsWt_mul hk fun y hy=>h y (List.mem_cons_of_mem _ hy)
  obtain⟨nm,e⟩:=x
  have h3:=le_mulk hk (1+nm.length)
  simp only[List.map_cons,bdsWt,Bd.wt,Bd.name,Bd.e,Nat.mul_add,Nat.mul_one] at h1 h2 h3 ⊢
  omega
theorem alsWt_mul {k:Nat} (hk:0<k) {f:Al→Ex}:∀ {l:List Al},(∀ a∈l,(f a).wt≤k*a.body.wt)→alsWt (l.map fun a=>Al.mk a.kind a.name a.n a.names (f a))≤k*alsWt l
 |[],_=>by simp[alsWt]
 |x::l,h=>by
  have h1:=h x (List.mem_cons_self ..)
  have h2:=alsWt_mul hk fun y hy=>h y (List.mem_cons_of_mem _ hy)
  obtain⟨kd,nm,n,names,e⟩:=x
  have h3:=le_mulk hk (1+nm.length+strsWt names)
  simp only[List.map_cons,alsWt,Al.wt,Al.kind,Al.name,Al.n,Al.names,Al.body,Nat.mul_add,Nat.mul_one] at h1 h2 h3 ⊢
  omega
theorem rep_wt (s:Str) (r:Ex):∀ (m:Nat) (e:Ex),(repF s r m e).wt≤r.wt*e.wt
 |0,e=>by rw[repF];exact le_mulk r.wt_pos _
 |m+1,.mk kd nm nn op names subs binds alts=>by
  have hk:=r.wt_pos
  rw[repF]
  split
  ·split
   ·have:=(Ex.mk kd nm nn op names subs binds alts).wt_pos
    exact Nat.le_mul_of_pos_right _ this
   ·exact le_mulk hk _
  ·have h1:exsWt (subs.map fun x=>if s∈ownOf kd names binds then x else repF s r m x)≤r.wt*exsWt subs:=exsWt_mul fun x _=>by
    split
    ·exact le_mulk hk _
    ·exact rep_wt s r m x
   have h2:bdsWt (binds.map fun b=>Bd.mk b.name (if s∈ownOf kd names binds then b.e else repF s r m b.e))≤r.wt*bdsWt binds:=bdsWt_mul hk fun b _=>by
    split
    ·exact le_mulk hk _
    ·exact rep_wt s r m b.e
   have h3:alsWt (alts.map fun a=>Al.mk a.kind a.name a.n a.names (if s∈altOwn kd nm a.names then a.body else repF s r m a.body))≤r.wt*alsWt alts:=alsWt_mul hk fun a _=>by
    split
    ·exact le_mulk hk _
    ·exact rep_wt s r m a.body
   have h4:=le_mulk hk (1+nm.length+strsWt names)
   simp only[Ex.wt,Nat.mul_add,Nat.mul_one] at h1 h2 h3 h4 ⊢
   omega
theorem rowsF_cons (t:Tb) (cols:List Str) (r:Rw) (rs:List Rw) (n:Int):rowsF t cols (r::rs) n=
 if openR t r=true then (letE (nmN n) (lamE (nmN (n+1)) (rowsF t cols rs (n+2)).1) (rowF t (appE (nmN n)) r.pats cols (repS nextN (appE (nmN n)) r.body) (rowsF t cols rs (n+2)).2).1,(rowF t (appE (nmN n)) r.pats cols (repS nextN (appE (nmN n)) r.body) (rowsF t cols rs (n+2)).2).2)
 else rowF t emptyE r.pats cols r.body n:=by rw[rowsF]
theorem rowsF_stop {t:Tb} {cols:List Str} (more:List Rw):∀ {rs:List Rw} {r:Rw},rs.getLast?=some r→openR t r=false→∀ n,rowsF t cols (rs++more) n=rowsF t cols rs n
 |[],r,h,_,_=>by cases h
 |[x],r,h,ho,n=>by
  simp only[List.getLast?_singleton,Option.some.injEq] at h
  subst h
  rw[List.singleton_append,rowsF_cons,rowsF_cons,ho]
  simp
 |x::y::rs,r,h,ho,n=>by
  rw[List.getLast?_cons_cons] at h
  have ih:=rowsF_stop (cols:=cols) more h ho
  rw[List.cons_append,rowsF_cons,rowsF_cons,ih]
theorem nmN_len {n:Int} (h0:0≤n) (h1:n≤1152921504606846976):(nmN n).length≤22:=by
 have:=itoa_len n (by omega) (by omega)
 simp only[nmN,List.length_cons];omega
theorem fldN_wt:∀ (k:Nat) (n:Int),0≤n→n+k≤1152921504606846976→strsWt (fldN k n)≤23*k∧∀ s∈fldN k n,s.length≤22
 |0,_,_,_=>by simp[fldN,strsWt]
 |k+1,n,h0,h1=>by
  have ih:=fldN_wt k (n+1) (by omega) (by omega)
  have:=nmN_len h0 (by omega)
  refine⟨by simp only[fldN,strsWt];omega,fun s hs=>?_⟩
  rcases List.mem_cons.1 hs with rfl|hs
  ·exact this
  ·exact ih.2 s hs
theorem varE_wt (s:Str):(varE s).wt=1+s.length:=by simp[varE,Ex.wt,strsWt,exsWt,bdsWt,alsWt]
theorem letE_wt (s:Str) (e b:Ex):(letE s e b).wt=2+s.length+e.wt+b.wt:=by simp[letE,Ex.wt,Bd.wt,strsWt,exsWt,bdsWt,alsWt];omega
theorem ofE_wt (c s:Str) (l:List Al):(ofE c s l).wt=2+s.length+c.length+alsWt l:=by simp[ofE,Ex.wt,strsWt,exsWt,bdsWt,varE_wt];omega
theorem lamE_wt (d:Str) (b:Ex):(lamE d b).wt=2+d.length+b.wt:=by simp[lamE,Ex.wt,strsWt,exsWt,bdsWt,alsWt];omega
theorem appE_wt (f:Str):(appE f).wt=10+f.length:=by simp[appE,Ex.wt,strsWt,exsWt,bdsWt,alsWt,varE_wt,unitN];omega
theorem consF_name {l:List Cn} {s:Str} {c:Cn} (h:consF l s=some c):c.name=s:=by simpa using List.find?_some h
theorem shpF_name {t:Tb} {p:Nd} {s:Sh} (h:shpF t p=some s):s.con.name.length≤p.name.length+9:=by
 have hp:∀ {x:Str} {l:List Nd},plainF t.cons x l=some s→s.con.name=x:=fun h=>consF_name (plainF_some h).1
 have hl:∀ {l:List Nd},listF t.cons l=some s→s.con.name.length≤p.name.length+9:=fun {l} h=>by
  cases l with
  |nil=>rw[hp h];simp[emptyN]
  |cons _ _=>rw[hp h];simp[consN]
 unfold shpF at h
 split at h
 ·rw[hp h];omega
 split at h
 ·split at h
  ·rw[hp h];simp[pairN]
  split at h
  ·rw[hp h];simp[tripleN]
  ·cases h
 split at h
 ·exact hl h
 split at h
 ·split at h
  ·exact hl h
  ·cases h
 split at h
 ·split at h
  ·rename_i c hc
   obtain⟨ps,h1,rfl⟩:=Option.map_eq_some_iff.1 h
   simp only[consF_name hc];omega
  ·cases h
 ·cases h
def WtOK (rest:Rst) (lim:Int) (B:Nat):Prop:=∀ n,0≤n→n≤lim→(rest n).1.wt≤B
theorem mul_step {a b L:Nat} (h:a+1≤b):a*L+L≤b*L:=by
 have:=Nat.mul_le_mul_right L h
 rw[Nat.add_mul,Nat.one_mul] at this;exact this
theorem frmF_wt {t:Tb} {way:Ex} {f K:Nat} {fields:List Str} (hfl:∀ s∈fields,s.length≤22) {rest:Rst} {lim:Int} {B:Nat} (hB:WtOK rest lim B):∀ {l:List Pt},
 (∀ q∈l,∀ (col:Str) (rest:Rst) (lim:Int) (B:Nat),col.length≤22→lim≤1152921504606846976→WtOK rest lim B→WtOK (matF t way f q.pat col rest) (lim - 101*q.pat.msr) (B+q.pat.msr*(22+K)))→lim≤1152921504606846976→
 WtOK (frmF (matF t way f) fields rest l) (lim - 101*msrL l) (B+msrL l*(22+K))
 |[],_,_=>by
  intro n h0 h1
  simp only[frmF,msrL,List.map_nil,List.sum_nil,Nat.zero_mul,Nat.add_zero] at h1 ⊢
  exact hB n h0 (by omega)
 |q::r,h,hlim=>by
  have ih:=frmF_wt hfl hB (l:=r) (fun q hq=>h q (List.mem_cons_of_mem _ hq)) hlim
  have hcol:(fields.getD q.place.toNat []).length≤22:=by
   rw[List.getD_eq_getElem?_getD]
   cases hx:fields[q.place.toNat]? with
   |none=>simp
   |some s=>exact hfl s (List.mem_of_getElem? hx)
  have e:msrL (q::r)=q.pat.msr+msrL r:=by simp[msrL]
  intro n h0 h1
  rw[e] at h1 ⊢
  have:=h q (List.mem_cons_self ..) (fields.getD q.place.toNat []) _ _ _ hcol (by omega) ih n h0 (by omega)
  rw[frmF]
  refine Nat.le_trans this ?_
  rw[Nat.add_mul];omega
theorem matF_wt {t:Tb} (har:∀ c∈t.cons,c.arity≤100) (way:Ex) (K:Nat) (hK:way.wt+4500≤K):∀ (f:Nat) (p:Nd),p.msr<f→p.msr≤10000→(rgtF t f p).1=true→∀ (col:Str) (L:Nat),col.length≤L→22≤L→∀ (rest:Rst) (lim:Int) (B:Nat),lim≤1152921504606846976→WtOK rest lim B→WtOK (matF t way f p col rest) (lim - 101*p.msr) (B+p.msr*(L+K))
 |0,p,h,_,_,_,_,_,_,_,_,_,_,_=>absurd h (by omega)
 |f+1,p,hm,hm2,hr,col,L,hcol,hL,rest,lim,B,hlim,hB=>by
  intro n h0 h1
  have hms:=p.msr_eq
  have hone:L+K≤p.msr*(L+K):=Nat.le_mul_of_pos_left _ (by omega)
  by_cases h43:p.kind=43
  ·rw[show matF t way (f+1) p col rest=rest by rw[matF,if_pos h43]]
   have:=hB n h0 (by omega);omega
  by_cases h42:p.kind=42
  ·rw[show matF t way (f+1) p col rest=fun n=>(letE p.name (varE col) (rest n).1,(rest n).2) by rw[matF,if_neg h43,if_pos h42]]
   have:=hB n h0 (by omega)
   simp only[letE_wt,varE_wt];omega
  by_cases h50:p.kind=50
  ·have hq:∃ q,p.subs=[q]∧(rgtF t f q).1=true:=by
    rw[rgtF,if_neg h43,if_neg h42,if_neg (by omega),if_pos h50] at hr
    split at hr
    ·rename_i q hq
     split at hr
     ·cases hr
     ·exact⟨q,hq,hr⟩
    ·cases hr
   obtain⟨q,hq,hr2⟩:=hq
   have hqm:q.msr+3≤p.msr:=by rw[p.msr_eq,hq];simp only[ndsMsr];omega
   rw[show matF t way (f+1) p col rest=fun n=>(letE p.name (varE col) (matF t way f q col rest n).1,(matF t way f q col rest n).2) by rw[matF,if_neg h43,if_neg h42,if_pos h50,hq]]
   have h2:=matF_wt har way K hK f q (by omega) (by omega) hr2 col L hcol hL rest lim B hlim hB n h0 (by omega)
   have h3:=mul_step (L:=L+K) (show q.msr+1≤p.msr by omega)
   simp only[letE_wt,varE_wt];omega
  by_cases h44:p.kind=44
  ·rw[show matF t way (f+1) p col rest=fun n=>(ofE col (nmN n) [litA p.n (rest (n+1)).1,otherA way],(rest (n+1)).2) by rw[matF,if_neg h43,if_neg h42,if_neg h50,if_pos h44]]
   have h2:=hB (n+1) (by omega) (by omega)
   have h3:=nmN_len h0 (by omega)
   simp only[ofE_wt,litA,otherA,alsWt,Al.wt,strsWt,List.length_nil];omega
  have hs:∃ s,shpF t p=some s∧∀ x∈s.parts,(rgtF t f x.pat).1=true:=by
   rw[rgtF,if_neg h43,if_neg h42,if_neg h44,if_neg h50] at hr
   cases hsh:shpF t p with
   |none=>rw[hsh] at hr;cases hr
   |some s=>rw[hsh] at hr;exact⟨s,rfl,rgtL_parts hr⟩
  obtain⟨s,hs,hparts⟩:=hs
  have hmf:matF t way (f+1) p col rest n=(ofE col (nmN n) (conA s.con.name (fldN s.con.arity.toNat (n+1)) (frmF (matF t way f) (fldN s.con.arity.toNat (n+1)) rest s.parts (n+1+s.con.arity.toNat)).1::if s.con.family=1 then [] else [otherA way]),(frmF (matF t way f) (fldN s.con.arity.toNat (n+1)) rest s.parts (n+1+s.con.arity.toNat)).2):=by
   rw[matF,if_neg h43,if_neg h42,if_neg h50,if_neg h44,hs]
  rw[hmf]
  have hsm:=shpF_msr hs
  have hml:=msrL_le s.parts
  have hA:=har _ (shpF_con hs)
  have hnm:=shpF_name hs
  obtain⟨f1,f2⟩:=fldN_wt s.con.arity.toNat (n+1) (by omega) (by omega)
  have h2:=frmF_wt (K:=K) f2 hB (l:=s.parts) (fun q hq col rest lim B hc hlim hB=>matF_wt har way K hK f q.pat (by have:=shpF_part hs hq;omega) (by have:=shpF_part hs hq;omega) (hparts q hq) col 22 hc (Nat.le_refl _) rest lim B hlim hB) hlim (n+1+s.con.arity.toNat) (by omega) (by omega)
  have h3:=nmN_len h0 (by omega)
  have h4:msrL s.parts*(22+K)≤msrL s.parts*(L+K):=Nat.mul_le_mul_left _ (by omega)
  have h5:=mul_step (L:=L+K) (show msrL s.parts+1≤p.msr by omega)
  have h6:alsWt (if s.con.family=1 then [] else [otherA way])≤1+way.wt:=by
   split
   ·simp[alsWt]
   ·simp[alsWt,otherA,Al.wt,strsWt]
  simp only[ofE_wt,conA,alsWt,Al.wt]
  omega
def colsWt:List Str→Nat
 |[]=>0
 |s::r=>s.length+22+colsWt r
theorem rowF_wt {t:Tb} (har:∀ c∈t.cons,c.arity≤100) (way:Ex) (K:Nat) (hK:way.wt+4500≤K) (body:Ex):∀ (ps:List Nd) (cs:List Str),RightN t ps→(∀ p∈ps,p.msr≤10000)→∀ (lim:Int),lim≤1152921504606846976→WtOK (rowF t way ps cs body) (lim - 101*msrN ps) (body.wt+10000*(colsWt cs+ps.length*K))
 |[],cs,_,_,lim,_=>by intro n _ _;simp only[rowF];omega
 |p::ps,[],_,_,lim,_=>by intro n _ _;simp only[rowF];omega
 |p::ps,c::cs,h,h2,lim,hlim=>by
  have e:msrN (p::ps)=p.msr+msrN ps:=by simp[msrN]
  intro n h0 h1
  rw[e] at h1
  have ih:=rowF_wt har way K hK body ps cs (fun q hq=>h q (List.mem_cons_of_mem _ hq)) (fun q hq=>h2 q (List.mem_cons_of_mem _ hq)) lim hlim
  obtain⟨_,h3⟩:=h p (List.mem_cons_self ..)
  have h4:=h2 p (List.mem_cons_self ..)
  have h5:=matF_wt har way K hK (p.msr+1) p (Nat.lt_succ_self _) h4 h3 c (c.length+22) (by omega) (by omega) _ _ _ (by omega) ih n h0 (by omega)
  rw[rowF]
  have h6:p.msr*(c.length+22+K)≤10000*(c.length+22+K):=Nat.mul_le_mul_right _ h4
  simp only[colsWt,List.length_cons,Nat.add_mul,Nat.mul_add,Nat.one_mul] at h5 h6 ⊢
  omega
theorem rowsF_wt {t:Tb} (har:∀ c∈t.cons,c.arity≤100) (cols:List Str) (M:Nat):∀ (rs:List Rw),RowsOK t cols rs→(∀ r∈rs,(∀ p∈r.pats,p.msr≤10000)∧r.pats.length≤20∧r.body.wt≤M)→∀ (lim:Int),lim≤1152921504606846976→WtOK (rowsF t cols rs) (lim - cntR rs) (12+rs.length*(100+32*M+10000*(colsWt cols+20*4600)))
 |[],_,_,lim,_=>by intro n _ _;rw[rowsF];simp[raiseE,Ex.wt,strsWt,exsWt,bdsWt,alsWt]
 |r::rs,h,h2,lim,hlim=>by
  have e:cntR (r::rs)=2+101*msrN r.pats+cntR rs:=by simp[cntR]
  intro n h0 h1
  rw[e] at h1
  have ih:=rowsF_wt har cols M rs (fun q hq=>h q (List.mem_cons_of_mem _ hq)) (fun q hq=>h2 q (List.mem_cons_of_mem _ hq)) lim hlim
  obtain⟨_,g2,_⟩:=h r (List.mem_cons_self ..)
  obtain⟨g4,g5,g6⟩:=h2 r (List.mem_cons_self ..)
  have hro:RowsOK t cols rs:=fun q hq=>h q (List.mem_cons_of_mem _ hq)
  have n1:=nmN_len h0 (by omega)
  have n2:=nmN_len (n:=n+1) (by omega) (by omega)
  have hw1:=appE_wt (nmN n)
  have hmulK:∀ k,r.pats.length*k≤20*k:=fun k=>Nat.mul_le_mul_right _ g5
  rw[rowsF_cons]
  simp only[List.length_cons,Nat.add_mul,Nat.one_mul]
  split
  ·have hle:=rowsF_le har cols rs hro (n+2)
   have i1:=ih (n+2) (by omega) (by omega)
   have i2:=rowF_wt har (appE (nmN n)) 4600 (by omega) (repS nextN (appE (nmN n)) r.body) r.pats cols g2 g4 lim hlim (rowsF t cols rs (n+2)).2 (by omega) (by omega)
   have i3:(repS nextN (appE (nmN n)) r.body).wt≤(appE (nmN n)).wt*r.body.wt:=rep_wt _ _ _ _
   have i4:(appE (nmN n)).wt*r.body.wt≤32*M:=Nat.mul_le_mul (by omega) g6
   have i5:=hmulK 4600
   simp only[letE_wt,lamE_wt]
   omega
  ·have i2:=rowF_wt har emptyE 4600 (by decide) r.body r.pats cols g2 g4 lim hlim n h0 (by omega)
   have i5:=hmulK 4600
   omega
theorem anyRwS_ok (G:Gl) (hG:GClosed G) (f:SV) (p:Rw→Bool) (V:List Rw) (id g:Nat) (H:List Blk) (hid:H[id]? =some (.cells g 9 (rwCells V))) (hl:V.length<1125899906842624) (hfu:f.under H.length=true)
 (hf:∀ x∈V,ACallV Tryd.prog G f [x.sv] H (fun r H'=>H'=H∧r= .bool (p x))):
 ACall Tryd.prog G 25 [.sl id g 0 V.length,f] H (fun r H'=>H'=H∧r= .bool (V.any p)):=by
 have hidx:ACall Tryd.prog G 43 [.sl id g 0 V.length,f] H (fun r H'=>H'=H∧r= .int .i64 (match V.findIdx? p with|some i=>(i:Int)|none=> -1)):=by
  have hlm:(rwCells V).length=V.length:=by rw[rwCells_map,List.length_map]
  refine ACall.of_go TB [] tabOK _ Tryd.func43 rfl (by decide) Tryd.ntmps43 (by simp) rfl (by simp only[initEnv,Nat.reduceAdd];rfl) fun C R' hR hC hcl hB=>?_;have X:=noX;have hC':=congrArg List.length hC
  have X:=And.intro X (And.intro hlm hid)
  have hcl1:=hcl
  (refine run ?_;with_reducible repeat' first|exact trivial|(apply Fork.mk<;>intro hb)|apply Two.mk)
  refine go_loop (fun k:Nat=>[(0,.sl id g 0 V.length),(1,f),(7,.int .i64 V.length),(8,.int .i64 k)]) (fun _=>H) (fun k=>V.length - k) (fun k=>k≤V.length∧∀ x∈V.take k,p x=false) 0 ⟨Nat.zero_le _,by simp⟩ (Wk.sub (by simp[subEnv,look])) ?_
  rintro K k ⟨hk,hno⟩ hK
  rcases Nat.lt_or_ge k V.length with hlt|hge
  ·have e1:(rwCells V)[k]? =some (.agg V[k].cells):=by simp[rwCells_map,hlt,Rw.sv]
   have hfk:=hf V[k] (List.getElem_mem hlt)
   have hsv:V[k].sv= .agg V[k].cells:=rfl
   rw[hsv] at hfk
   have X:=And.intro X e1
   (refine run ?_;with_reducible repeat' first|exact trivial|(apply Fork.mk<;>intro hb)|apply Two.mk)
   refine callV hfk ?_
   rintro r H' ⟨rfl,rfl⟩
   (refine run ?_;with_reducible repeat' first|exact trivial|(apply Fork.mk<;>intro hb)|apply Two.mk)
   ·have hfi:V.findIdx? p=some k:=by
     rw[List.findIdx?_eq_some_iff_getElem]
     refine⟨hlt,by simpa using hb,fun j hj=>?_⟩
     have:=hno (V[j]'(by omega)) (by rw[List.mem_take_iff_getElem];exact⟨j,by omega,rfl⟩)
     simp[this]
    refine Fin.out hR ⟨rfl,?_⟩
    simp only[resSV,hfi]
   ·refine hK _ _ (k+1) (by omega) ⟨by omega,?_⟩ (Wk.sub (by simp[subEnv,look]))
    rw[List.take_succ_eq_append_getElem hlt]
    intro x hx
    rcases List.mem_append.1 hx with hx|hx
    ·exact hno x hx
    ·rw[List.mem_singleton.1 hx];exact hb
  ·have:k=V.length:=by omega
   subst this
   clear hK
   have X:=And.intro X (Int.lt_irrefl (V.length:Int))
   (refine run ?_;with_reducible repeat' first|exact trivial|(apply Fork.mk<;>intro hb)|apply Two.mk)
   have hfi:V.findIdx? p=none:=by rw[List.findIdx?_eq_none_iff];rw[List.take_length] at hno;exact hno
   refine Fin.out hR ⟨rfl,?_⟩
   simp only[resSV,hfi]
 have h2:=idxP_any p V
 generalize hI:(match V.findIdx? p with|some i=>(i:Int)|none=> -1)=I at hidx
 refine ACall.of_go TB [] tabOK _ Tryd.func25 rfl (by decide) Tryd.ntmps25 (by simp) rfl (by simp only[initEnv,Nat.reduceAdd];rfl) fun C R' hR hC hcl hB=>?_;have X:=noX;have hC':=congrArg List.length hC
 (refine run ?_;with_reducible repeat' first|exact trivial|(apply Fork.mk<;>intro hb)|apply Two.mk)
 refine callS hidx ?_
 rintro r H' ⟨rfl,rfl⟩
 (refine run ?_;with_reducible repeat' first|exact trivial|(apply Fork.mk<;>intro hb)|apply Two.mk)
 refine Fin.out hR ⟨rfl,?_⟩
 rw[← h2,← hI]
 simp only[resSV]
 cases V.findIdx? p with
 |none=>rfl
 |some i=>rfl
end Go.Proofs.YtggmfabkpnfodaaDoor
