/- A part of the proof: Q1, X1, U1, U2, U6, U7, U8, U4, U9, V1, W1, W2, W3, W4, Shelf, W5, W6, Y1, Y2, Y3, A1, X3, A2, SwL, SwM, A3, A4, A5. Names and spaces are cut short by program. -/
import Derived.Test.YtggmfabkpnfodaaDoorMd
import Derived.Lib.AtoiErrMem
import Derived.Lib.SmallJoins
import Derived.Lib.AppendIntMem
import Derived.Test.YtggmfabkpnfodaaDoorCards
import Derived.Test.YtggmfabkpnfodaaDoorTie
import Derived.Deep.DeepHandedRow
import Derived.Lib.LaidTab
import Derived.Stop.LaidErr
import Derived.Sort.KeysCollected
import Derived.Shelf.Sort.Plain
import Derived.Shelf.Slices.In.SortNone
import Derived.Test.YtggmfabkpnfodaaDoorProg
set_option linter.unusedSimpArgs false
set_option linter.unusedVariables false
set_option maxRecDepth 10000
set_option maxHeartbeats 4000000
namespace Go.Proofs.YtggmfabkpnfodaaDoor
open Go
structure LibAt (C0:Cx):Prop where
 h:C0.H=[]
 tab:Lib.TabIs Tryd.prog C0.w "internal/strconv.uint64pow10" .u64 Lib.pow10Tab
theorem see_tab {C0 c:Cx} (h0:C0.H=[]) (hg:Grow C0 c) {n:String} {k:IntKind} {zs:List Int} (h:Lib.TabIs Tryd.prog C0.w n k zs):Lib.TabIs Tryd.prog c.w n k zs:=by
 unfold Lib.TabIs World.var? at h ⊢
 cases hg2:Tryd.prog.globalNamed n with
 |none=>rw[hg2] at h;cases h
 |some g=>
  rw[hg2] at h
  simp only[Option.bind_some] at h ⊢
  split at h
  ·rename_i cs T fr hc
   have hlt:g<C0.w.heap.size:=(Array.getElem?_eq_some_iff.1 hc).1
   have hold:=hg.old g hlt (fun⟨id,o,⟨B,hB,_⟩,_⟩=>by rw[h0] at hB;cases hB)
   rw[hold,hc]
   exact h
  ·cases h
theorem ACall.of_plain {P:Program} {G:Gl} {f:FuncId} {args:List SV} {H:List Blk} {R:SV→Prop} (hf:∃ fn,P.funcs[f]? =some fn∧(fn.name== "runtime.NumGoroutine")=false∧fn.body.isNone=false)
 (hc:∀ (c:Cx) vs,GOK G c→RepL c args vs→Calls P f vs.toArray c.w fun e w'=>∃ v x,e= .returned v∧(∀ c,Rep c x v)∧R x∧Go.RowKit.Below c.w.heap.size c.w w'):
 ACall P G f args H (fun r H'=>H'=H∧R r):=by
 refine⟨hf,fun c vs e1 hh hG hv=>?_⟩
 subst e1
 refine(callsIn_wide (n:=0)).2 ?_
 refine(hc c vs hG hv).mono ?_
 rintro e w' ⟨v,x,rfl,hx,hr,hb⟩
 obtain⟨g1,g2⟩:=Cx.world hh (w':=w') (fun b h=>hb.block b h) hb.size hb.os hb.tape hb.output
 exact⟨v,x,{ c with w:=w'},rfl,rfl,⟨rfl,hr⟩,g2,hx _,g1⟩
theorem nDigits_le:∀ (k u:Nat),u<10 ^ (k+1)→Lib.nDigits u≤k+1
 |0,u,h=>by rw[Lib.nDigits_small (by simpa using h)];exact Nat.le_refl _
 |k+1,u,h=>by
  by_cases hu:u<10
  ·rw[Lib.nDigits_small hu];omega
  ·rw[Lib.nDigits_big hu]
   have:=nDigits_le k (u / 10) (by rw[Nat.pow_succ] at h;omega)
   omega
theorem itoa_len (n:Int) (h0: -9223372036854775808≤n) (h1:n≤9223372036854775807):(Lib.itoa n).length≤20:=by
 unfold Lib.itoa
 split
 ·rw[List.length_cons,Lib.decDigits_length]
  have:=nDigits_le 18 n.natAbs (by omega)
  omega
 ·rw[Lib.decDigits_length]
  have:=nDigits_le 18 n.toNat (by omega)
  omega
theorem itoa_ok (G:Gl) (C0:Cx) (hb:G.base=some C0) (hl:LibAt C0) (n:Int) (h0: -9223372036854775808≤n) (h1:n≤9223372036854775807) (H:List Blk):
 ACall Tryd.prog G 60 [.int .i64 n] H (fun r H'=>H'=H∧r= .str (Lib.itoa n)):=by
 refine ACall.of_plain ⟨_,Tryd.func60,by decide,rfl⟩ fun c vs hg hv=>?_
 obtain⟨v,us,hv1,hv2,rfl⟩:=RepL.cons_iff.1 hv
 rw[RepL.nil_iff.1 hv2]
 simp only[Rep] at hv1
 obtain⟨rfl,_⟩:=hv1
 refine(Tryd.strconv_Itoa n h0 h1 c.w (see_tab hl.h (hg.2 C0 hb) hl.tab)).mono ?_
 rintro e w' ⟨rfl,k,os,rfl⟩
 refine⟨_,.str (Lib.itoa n),rfl,fun c=>?_,rfl,Go.Lib.below_grow _ _ (Nat.le_refl _) k os⟩
 simp only[Rep]
 exact⟨trivial,by have:=itoa_len n h0 h1;unfold maxLen;omega⟩
section
open Go Go.ChangeShapes Go.WideShapes Go.RowKit
theorem own:ownKnob Tryd.prog.godebug=none:=by kernel_rfl
theorem laid:laidOutB Tryd.prog=true:=by kernel_rfl
def GB (W:World):Gl:=⟨[],some (rdC W)⟩
theorem gclosedB (W:World):GClosed (GB W):=fun p hp=>by cases hp
theorem gokB (W:World):GOK (GB W) (rdC W):=⟨fun p hp=>(by cases hp),fun C0 h=>(by cases h;exact Grow.refl _)⟩
theorem gPT:Tryd.prog.globalNamed "internal/strconv.uint64pow10" =some 0:=by kernel_rfl
theorem gPTType:(Tryd.prog.globals[0]?).map (·.type)=some 160:=by kernel_rfl
theorem cellsU:Tryd.prog.cellsOf 141=1:=by kernel_rfl
theorem cells160:Tryd.prog.cellsOf 160=20:=by kernel_rfl
theorem tabEq:(Rows.laid_internal_strconv_uint64pow10:DataW Unit)=Lib.tabData .u64 Lib.pow10Tab:=by kernel_rfl
theorem libAt {W:World} (h:laidMetH Tryd.prog [("math/bits.deBruijn32tab",Rows.laid_math_bits_deBruijn32tab),("math/bits.deBruijn64tab",Rows.laid_math_bits_deBruijn64tab),("internal/strconv.uint64pow10",Rows.laid_internal_strconv_uint64pow10)] W):LibAt (rdC W):=by
 have h3:laidMet Tryd.prog [("internal/strconv.uint64pow10",Rows.laid_internal_strconv_uint64pow10)] W:=laidMet.tail (laidMet.tail h)
 refine⟨rfl,?_⟩
 rw[tabEq] at h3
 exact Lib.tabIs_of_head gPT gPTType Tryd.underlying160 Tryd.underlying141 cellsU cells160 h3
section
variable {H:Type} {enc:TypeId×Value→H} {W:World} {sp:Nat→Bool}
theorem law_callsG {P:Program} {G:Gl} {f:FuncId} {args:List SV} {vs:List Value} (h:ACall P G f args [] (fun r H'=>H'=[]∧r= .bool true)) (hg:GOK G (rdC W)) (hv:RepL (rdC W) args vs) {R:World→Prop} (hR:∀ W',Below W.heap.size W W'→R W'):
 Calls P f vs.toArray W fun e W'=>∃ v,e= .returned v∧v= .bool true∧R W':=by
 refine(callsIn_wide (n:=0)).1 ((h.2 (rdC W) vs rfl (rdC_ok W) hg hv).mono ?_)
 rintro e w' ⟨v,x,c',rfl,hw,⟨_,rfl⟩,_,hx,hg⟩
 simp only[Rep] at hx
 exact⟨v,rfl,hx,hR _ (Grow.below hg hw)⟩
end
def valsOf:DataW Unit→List Value
 | .agg l=>l.map fun
  | .lit (.int k n)=> .int k n
  |_=> .nilFunc
 |_=>[]
def putVals (vs:List Value):Obj→Obj
 | .cells _ t fr=> .cells vs.toArray t fr
 |o=>o
noncomputable def laidWorld (os:Os):World:=
 { World.holding Tryd.prog os ⟨#[],#[],[]⟩ with heap:=((((World.holding Tryd.prog os ⟨#[],#[],[]⟩).heap.modify 0 (putVals (valsOf Rows.laid_internal_strconv_uint64pow10))).modify 1 (putVals (valsOf Rows.laid_math_bits_deBruijn32tab))).modify 2 (putVals (valsOf Rows.laid_math_bits_deBruijn64tab)))}
end
def idxFrom:Nat→List (List UInt8)→List UInt8→Int
 |_,[],_=> -1
 |i,x::r,v=>if v=x then i else idxFrom (i+1) r v
theorem index_list (G:Gl) (l:List (List UInt8)) (v:List UInt8) (H:List Blk) (hl:l.length<4611686018427387904):
 ACall Tryd.prog G 42 [.list 1 (l.map .str),.str v] H (fun r H'=>H'=H∧r= .int .i64 (idxFrom 0 l v)):=by
 refine ACall.of_go TB [] tabOK _ Tryd.func42 rfl (by decide) Tryd.ntmps42 (by simp) rfl (by simp only[initEnv,Nat.reduceAdd];rfl) fun C R' hR hC hcl hB=>?_;have X:=noX;have hC':=congrArg List.length hC
 (refine runO ?_;with_reducible repeat' first|exact trivial|(apply Fork.mk<;>intro hb)|apply Two.mk)
 ·refine go_loop (fun i:Nat=>[(0,.list 1 (l.map .str)),(1,.str v),(4,.int .i64 0),(7,.int .i64 l.length),(8,.int .i64 i)]) (fun _=>H) (fun i=>l.length - i) (fun i=>i≤l.length∧idxFrom i (l.drop i) v=idxFrom 0 l v) 0 (by simp) (Wk.sub ?_) ?_
  ·simp (decide:=true) [subEnv,look]
  intro K i hi hK
  (refine runO ?_;with_reducible repeat' first|exact trivial|(apply Fork.mk<;>intro hb)|apply Two.mk)
  ·have hi':i<l.length:=by omega
   rw[List.drop_eq_getElem_cons hi',idxFrom,if_pos hb] at hi
   exact Fin.out hR ⟨rfl,by rw[← hi.2];rfl⟩
  ·have hi':i<l.length:=by omega
   rw[List.drop_eq_getElem_cons hi',idxFrom,if_neg hb] at hi
   exact hK _ _ (i+1) (by omega) ⟨hi',hi.2⟩ (Wk.sub (by simp[subEnv,look]))
  ·rw[List.drop_of_length_le (by omega),idxFrom] at hi
   exact Fin.out hR ⟨rfl,by rw[← hi.2];rfl⟩
theorem idxFrom_ge:∀ (l:List Str) (v:Str) (i:Nat),(idxFrom i l v= -1∧v∉l)∨((i:Int)≤idxFrom i l v∧v∈l)
 |[],v,i=> .inl ⟨rfl,by simp⟩
 |x::r,v,i=>by
  rw[idxFrom]
  split
  ·rename_i h;exact .inr ⟨Int.le_refl _,by simp[h]⟩
  ·rename_i h
   rcases idxFrom_ge r v (i+1) with h1|h1
   ·exact .inl ⟨h1.1,by simp[h,h1.2]⟩
   ·exact .inr ⟨by omega,by simp[h1.2]⟩
theorem contains_list (G:Gl) (l:List Str) (v:Str) (H:List Blk) (hl:l.length<4611686018427387904):
 ACall Tryd.prog G 24 [.list 1 (l.map .str),.str v] H (fun r H'=>H'=H∧r= .bool (decide (v∈l))):=by
 refine ACall.of_go TB [] tabOK _ Tryd.func24 rfl (by decide) Tryd.ntmps24 (by simp) rfl (by simp only[initEnv,Nat.reduceAdd];rfl) fun C R' hR hC hcl hB=>?_;have X:=noX;have hC':=congrArg List.length hC
 (refine runO ?_;with_reducible repeat' first|exact trivial|(apply Fork.mk<;>intro hb)|apply Two.mk)
 refine go_call (xs:=[.list 1 (l.map .str),.str v]) (by exact evS) rfl (index_list G l v H hl) ?_
 rintro r H' ⟨rfl,rfl⟩
 (refine runO ?_;with_reducible repeat' first|exact trivial|(apply Fork.mk<;>intro hb)|apply Two.mk)
 refine Fin.out hR ⟨rfl,?_⟩
 rcases idxFrom_ge l v 0 with h|h
 ·simp[h.1,h.2,resSV]
 ·simp only[h.2,decide_true,SV.bool.injEq,decide_eq_true_eq,resSV];omega
def argsOf (op:Int):Int:=if 1≤op∧op≤8 then 2 else if op=10 then 1 else if op=9∨op=11 then 0 else -1
theorem args_ok (G:Gl) (hG:GClosed G) (op:Int) (H:List Blk):ACall Tryd.prog G 50 [.int .i64 op] H (fun r H'=>H'=H∧r= .int .i64 (argsOf op)):=by
 refine ACall.of_go TB [] tabOK _ Tryd.func50 rfl (by decide) Tryd.ntmps50 (by simp) rfl (by simp only[initEnv,Nat.reduceAdd];rfl) fun C R' hR hC hcl hB=>?_;have X:=noX;have hC':=congrArg List.length hC
 (refine runO ?_;with_reducible repeat' first|exact trivial|(apply Fork.mk<;>intro hb)|apply Two.mk)
 all_goals
  refine Fin.out hR ⟨rfl,?_⟩
  simp only[resSV,argsOf]
  repeat' (first|rfl|split|(exfalso;omega))
theorem parts_ok (G:Gl) (hG:GClosed G) (e:Ex) (H:List Blk) (hw:e.wt<4294967296):ACall Tryd.prog G 51 [e.sv] H (fun r H'=>H'=H∧r= .list 8 (exCells e.parts)):=by
 obtain⟨kd,nm,nn,op,names,subs,binds,alts⟩:=e
 have hlen:=Ex.wt_lens kd nm nn op names subs binds alts
 refine ACall.of_go TB [3] tabOK _ Tryd.func51 rfl (by decide) Tryd.ntmps51 (by simp) rfl (by simp only[initEnv,Nat.reduceAdd];rfl) fun C R' hR hC hcl hB=>?_;have X:=noX;have hC':=congrArg List.length hC
 have hC':C.H.length=H.length:=by rw[hC]
 (refine runO ?_;with_reducible repeat' first|exact trivial|(apply Fork.mk<;>intro hb)|apply Two.mk)
 refine go_loop (fun i:Nat=>[(1,.ptr H.length 0 0 0),(3,.sl (H.length+1) 0 0 (subs.length+i)),(4,.int .i64 i)]) (fun i=>H++[.cells 0 8 [.agg [.int .i64 kd,.str nm,.int .i64 nn,.int .i64 op,.list 1 (names.map .str),.list 8 (exCells subs),.list 9 (bdCells binds),.list 12 (alCells alts)]],.cells 0 8 (exCells subs++(binds.take i).map fun b=> .agg b.e.cells)])
  (fun i=>binds.length - i) (fun i=>i≤binds.length) 0 (Nat.zero_le _) ?_ ?_
 ·simp only[List.take_zero,List.map_nil,List.append_nil,Nat.add_zero]
  exact wkS (n0:=H.length) [(H.length,0),(H.length+1,0)] hG hB (by rw[hC]) hcl
 ·intro K i hi hK
  (refine runO ?_;with_reducible repeat' first|exact trivial|(apply Fork.mk<;>intro hb)|apply Two.mk)
  ·refine hK _ _ (i+1) (by omega) (by omega) ?_
   simp only[List.take_succ_eq_append_getElem (show i<binds.length by omega),List.map_append,List.map_cons,List.map_nil]
   exact wkS (n0:=H.length) [(H.length,0),(H.length+1,0)] hG hB (by rw[hC]) hcl
  ·have hi':i=binds.length:=by omega
   subst hi'
   simp only[List.take_length]
   refine go_loop (fun i:Nat=>[(1,.ptr H.length 0 0 0),(3,.sl (H.length+1) 0 0 (subs.length+binds.length+i)),(5,.int .i64 i)]) (fun i=>H++[.cells 0 8 [.agg [.int .i64 kd,.str nm,.int .i64 nn,.int .i64 op,.list 1 (names.map .str),.list 8 (exCells subs),.list 9 (bdCells binds),.list 12 (alCells alts)]],.cells 0 8 (exCells subs++((binds.map fun b=> .agg b.e.cells)++(alts.take i).map fun a=> .agg a.body.cells))])
    (fun i=>alts.length - i) (fun i=>i≤alts.length) 0 (Nat.zero_le _) ?_ ?_
   ·simp only[List.take_zero,List.map_nil,List.append_nil,Nat.add_zero]
    exact wkS (n0:=H.length) [(H.length,0),(H.length+1,0)] hG hB (by rw[hC]) hcl
   ·intro K2 i hi hK2
    (refine runO ?_;with_reducible repeat' first|exact trivial|(apply Fork.mk<;>intro hb)|apply Two.mk)
    ·refine hK2 _ _ (i+1) (by omega) (by omega) ?_
     simp only[List.take_succ_eq_append_getElem (show i<alts.length by omega),List.map_append,List.map_cons,List.map_nil]
     exact wkS (n0:=H.length) [(H.length,0),(H.length+1,0)] hG hB (by rw[hC]) hcl
    ·have hi':i=alts.length:=by omega
     subst hi'
     have hpe:exCells (Ex.mk kd nm nn op names subs binds alts).parts=exCells subs++((binds.map fun b=> .agg b.e.cells)++alts.map fun a=> .agg a.body.cells):=by
      simp only[Ex.parts_mk,exCells_map,List.map_append,List.map_map];rfl
     refine Fin.tellN (n0:=H.length) hR (by simp) hC' hcl (Frz.sf (by exact hbS) (by omega) (by simp) ?_ (exCells_under _ _)) ⟨rfl,rfl⟩
     rw[hpe,List.drop_zero,List.take_length]
     exact List.take_of_length_le (by simp[exCells_len])
def someB (H:List Blk):SV→List Blk→Prop:=fun r H'=>H'=H∧∃ b,r= .bool b
theorem whole_ok (G:Gl) (hG:GClosed G):∀ (m:Nat) (e:Ex) (H:List Blk),e.wt≤m→e.wt<4294967296→ACall Tryd.prog G 34 [e.sv] H (someB H)
 |0,e,H,hw,_=>by have:=e.wt_pos;omega
 |m+1,e,H,hw,hb=>by
  obtain⟨kd,nm,nn,op,names,subs,binds,alts⟩:=e
  have hlen:=Ex.wt_lens kd nm nn op names subs binds alts
  generalize hp:(Ex.mk kd nm nn op names subs binds alts).parts=pp
  have hpl:pp.length≤(Ex.mk kd nm nn op names subs binds alts).wt:=by rw[← hp,Ex.parts_mk];simp;omega
  refine ACall.of_go TB [] tabOK _ Tryd.func34 rfl (by decide) Tryd.ntmps34 (by simp) rfl (by simp only[initEnv,Nat.reduceAdd];rfl) fun C R' hR hC hcl hB=>?_;have X:=noX;have hC':=congrArg List.length hC
  have hC':C.H.length=H.length:=by rw[hC]
  (refine runD ?_;with_reducible repeat' first|exact trivial|(apply Fork.mk<;>intro hb)|apply Two.mk)
  refine go_cut (fun b:Bool=>[(1,.ptr H.length 0 0 0),(60,.bool b)]) (fun _=>H++[.cells 0 8 [.agg [.int .i64 kd,.str nm,.int .i64 nn,.int .i64 op,.list 1 (names.map .str),.list 8 (exCells subs),.list 9 (bdCells binds),.list 12 (alCells alts)]]]) (fun _=>True) (fun K hK=>?_) (fun b _=>?_)
  ·(refine run ?_;with_reducible repeat' first|exact trivial|(apply Fork.mk<;>intro hb)|apply Two.mk)
   all_goals try (
    refine xg_call ?_ (args_ok G hG op _) ?_
    ·exact evS
    rintro r H' ⟨rfl,rfl⟩
    (refine run ?_;with_reducible repeat' first|exact trivial|(apply Fork.mk<;>intro hb)|apply Two.mk))
   all_goals
    apply hK _ _ _ trivial
    exact wkS (n0:=H.length) [(H.length,0)] hG hB (by rw[hC]) hcl
  (refine run ?_;with_reducible repeat' first|exact trivial|(apply Fork.mk<;>intro hb)|apply Two.mk)
  ·exact Fin.tellN (n0:=H.length) hR (by simp) hC' hcl (.same _ rfl) ⟨rfl,_,rfl⟩
  refine go_call ?_ rfl (parts_ok G hG (Ex.mk kd nm nn op names subs binds alts) _ ‹_›) ?_
  ·exact evS
  rintro r H' ⟨rfl,rfl⟩
  rw[hp]
  (refine run ?_;with_reducible repeat' first|exact trivial|(apply Fork.mk<;>intro hb)|apply Two.mk)
  refine go_loop (fun i:Nat=>[(3,.list 8 (exCells pp)),(4,.int .i64 i)]) (fun i=>H++[])
   (fun i=>pp.length - i) (fun i=>i≤pp.length) 0 (Nat.zero_le _) ?_ ?_
  ·exact wkS (n0:=H.length) [] hG hB (by rw[hC]) hcl
  ·intro K2 i hi hK2
   (refine run ?_;with_reducible repeat' first|exact trivial|(apply Fork.mk<;>intro hb)|apply Two.mk)
   ·have hpi:(pp[i]'(by omega)).wt<(Ex.mk kd nm nn op names subs binds alts).wt:=by
     subst hp
     exact Ex.wt_parts (List.getElem_mem _)
    refine go_call ?_ rfl (whole_ok G hG m (pp[i]'(by omega)) _ (by omega) (by omega)) ?_
    ·exact evS
    rintro r H' ⟨rfl,bb,rfl⟩
    (refine run ?_;with_reducible repeat' first|exact trivial|(apply Fork.mk<;>intro hb)|apply Two.mk)
    ·exact Fin.tellN (n0:=H.length) hR (by simp) hC' hcl (.same _ rfl) ⟨rfl,_,rfl⟩
    ·refine hK2 _ _ (i+1) (by omega) (by omega) ?_
     exact wkS (n0:=H.length) [] hG hB (by rw[hC]) hcl
   ·exact Fin.tellN (n0:=H.length) hR (by simp) hC' hcl (.same _ rfl) ⟨rfl,_,rfl⟩
theorem shape_ok (G:Gl) (hG:GClosed G):∀ (m:Nat) (e:Ex) (H:List Blk),e.wt≤m→e.wt<4294967296→ACall Tryd.prog G 33 [e.sv] H (someB H)
 |0,e,H,hw,_=>by have:=e.wt_pos;omega
 |m+1,e,H,hw,hb=>by
  obtain⟨kd,nm,nn,op,names,subs,binds,alts⟩:=e
  have hlen:=Ex.wt_lens kd nm nn op names subs binds alts
  generalize hp:(Ex.mk kd nm nn op names subs binds alts).parts=pp
  have hpl:pp.length≤(Ex.mk kd nm nn op names subs binds alts).wt:=by rw[← hp,Ex.parts_mk];simp;omega
  refine ACall.of_go TB [] tabOK _ Tryd.func33 rfl (by decide) Tryd.ntmps33 (by simp) rfl (by simp only[initEnv,Nat.reduceAdd];rfl) fun C R' hR hC hcl hB=>?_;have X:=noX;have hC':=congrArg List.length hC
  have hC':C.H.length=H.length:=by rw[hC]
  (refine run ?_;with_reducible repeat' first|exact trivial|(apply Fork.mk<;>intro hb)|apply Two.mk)
  all_goals first|exact Fin.tellN (n0:=H.length) hR (by simp) hC' hcl (.same _ rfl) ⟨rfl,_,rfl⟩|skip
  refine go_call ?_ rfl (args_ok G hG op _) ?_
  ·exact evS
  rintro r H' ⟨rfl,rfl⟩
  (refine run ?_;with_reducible repeat' first|exact trivial|(apply Fork.mk<;>intro hb)|apply Two.mk)
  all_goals first|exact Fin.tellN (n0:=H.length) hR (by simp) hC' hcl (.same _ rfl) ⟨rfl,_,rfl⟩|skip
  all_goals
   refine go_loop (fun i:Nat=>[(1,.ptr H.length 0 0 0),(6,.int .i64 i)]) (fun i=>H++[.cells 0 8 [.agg [.int .i64 kd,.str nm,.int .i64 nn,.int .i64 op,.list 1 (names.map .str),.list 8 (exCells subs),.list 9 (bdCells binds),.list 12 (alCells alts)]]])
    (fun i=>alts.length - i) (fun i=>i≤alts.length) 0 (Nat.zero_le _) ?_ ?_
   ·exact wkS (n0:=H.length) [(H.length,0)] hG hB (by rw[hC]) hcl
   intro K i hi hK
   (refine run ?_;with_reducible repeat' first|exact trivial|(apply Fork.mk<;>intro hb)|apply Two.mk)
   ·exact Fin.tellN (n0:=H.length) hR (by simp) hC' hcl (.same _ rfl) ⟨rfl,_,rfl⟩
   ·refine hK _ _ (i+1) (by omega) (by omega) ?_
    exact wkS (n0:=H.length) [(H.length,0)] hG hB (by rw[hC]) hcl
   refine go_call ?_ rfl (parts_ok G hG (Ex.mk kd nm nn op names subs binds alts) _ ‹_›) ?_
   ·exact evS
   rintro r H' ⟨rfl,rfl⟩
   rw[hp]
   (refine run ?_;with_reducible repeat' first|exact trivial|(apply Fork.mk<;>intro hb)|apply Two.mk)
   refine go_loop (fun i:Nat=>[(8,.list 8 (exCells pp)),(9,.int .i64 i)]) (fun i=>H++[])
    (fun i=>pp.length - i) (fun i=>i≤pp.length) 0 (Nat.zero_le _) ?_ ?_
   ·exact wkS (n0:=H.length) [] hG hB (by rw[hC]) hcl
   ·intro K2 i hi hK2
    (refine run ?_;with_reducible repeat' first|exact trivial|(apply Fork.mk<;>intro hb)|apply Two.mk)
    ·have hpi:(pp[i]'(by omega)).wt<(Ex.mk kd nm nn op names subs binds alts).wt:=by
      subst hp
      exact Ex.wt_parts (List.getElem_mem _)
     refine go_call ?_ rfl (shape_ok G hG m (pp[i]'(by omega)) _ (by omega) (by omega)) ?_
     ·exact evS
     rintro r H' ⟨rfl,bb,rfl⟩
     (refine run ?_;with_reducible repeat' first|exact trivial|(apply Fork.mk<;>intro hb)|apply Two.mk)
     ·exact Fin.tellN (n0:=H.length) hR (by simp) hC' hcl (.same _ rfl) ⟨rfl,_,rfl⟩
     ·refine hK2 _ _ (i+1) (by omega) (by omega) ?_
      exact wkS (n0:=H.length) [] hG hB (by rw[hC]) hcl
    ·exact Fin.tellN (n0:=H.length) hR (by simp) hC' hcl (.same _ rfl) ⟨rfl,_,rfl⟩
def tl (s:Str) (n:Int) (b:Bool):SV:= .agg [.str s,.int .i64 n,.bool b]
def ownOf (k:Int) (l:List Str) (binds:List Bd):List Str:=if k=3 then l else if k=5 then binds.map Bd.name else []
mutual
def occ (s:Str):Ex→Nat
 | .mk k nm _ _ l subs binds alts=>if k=1 then (if nm=s then 1 else 0) else if s∈ownOf k l binds then 0 else occL s subs+occB s binds+occA s (k=6∧nm=s) alts
def occL (s:Str):List Ex→Nat
 |[]=>0
 |e::r=>occ s e+occL s r
def occBd (s:Str):Bd→Nat
 | .mk _ e=>occ s e
def occB (s:Str):List Bd→Nat
 |[]=>0
 |b::r=>occBd s b+occB s r
def occAl (s:Str) (c:Prop) [Decidable c]:Al→Nat
 | .mk _ _ _ l e=>if s∈l∨c then 0 else occ s e
def occA (s:Str) (c:Prop) [Decidable c]:List Al→Nat
 |[]=>0
 |a::r=>occAl s c a+occA s c r
end
mutual
def insd (s:Str) (b:Bool):Ex→Bool
 | .mk k nm _ _ l subs binds alts=>if k=1 then (b&&decide (nm=s)) else if s∈ownOf k l binds then false else insdL s (b||decide (k=3)) subs||insdB s (b||decide (k=3)) binds||insdA s (b||decide (k=3)) (k=6∧nm=s) alts
def insdL (s:Str) (b:Bool):List Ex→Bool
 |[]=>false
 |e::r=>insd s b e||insdL s b r
def insdBd (s:Str) (b:Bool):Bd→Bool
 | .mk _ e=>insd s b e
def insdB (s:Str) (b:Bool):List Bd→Bool
 |[]=>false
 |x::r=>insdBd s b x||insdB s b r
def insdAl (s:Str) (b:Bool) (c:Prop) [Decidable c]:Al→Bool
 | .mk _ _ _ l e=>if s∈l∨c then false else insd s b e
def insdA (s:Str) (b:Bool) (c:Prop) [Decidable c]:List Al→Bool
 |[]=>false
 |a::r=>insdAl s b c a||insdA s b c r
end
mutual
theorem occ_le (s:Str):∀ e:Ex,occ s e≤e.wt
 | .mk k nm n o l subs binds alts=>by
  have h1:=occL_le s subs
  have h2:=occB_le s binds
  have h3:=occA_le s (k=6∧nm=s) alts
  simp only[occ,Ex.wt]
  split
  ·split<;>omega
  ·split<;>omega
theorem occL_le (s:Str):∀ l:List Ex,occL s l≤exsWt l
 |[]=>Nat.le_refl _
 |e::r=>by have h1:=occ_le s e;have h2:=occL_le s r;simp only[occL,exsWt];omega
theorem occBd_le (s:Str):∀ b:Bd,occBd s b≤b.wt
 | .mk n e=>by have h1:=occ_le s e;simp only[occBd,Bd.wt];omega
theorem occB_le (s:Str):∀ l:List Bd,occB s l≤bdsWt l
 |[]=>Nat.le_refl _
 |e::r=>by have h1:=occBd_le s e;have h2:=occB_le s r;simp only[occB,bdsWt];omega
theorem occAl_le (s:Str) (c:Prop) [Decidable c]:∀ b:Al,occAl s c b≤b.wt
 | .mk k nm n l e=>by have h1:=occ_le s e;simp only[occAl,Al.wt];split<;>omega
theorem occA_le (s:Str) (c:Prop) [Decidable c]:∀ l:List Al,occA s c l≤alsWt l
 |[]=>Nat.le_refl _
 |e::r=>by have h1:=occAl_le s c e;have h2:=occA_le s c r;simp only[occA,alsWt];omega
end
theorem Al.wt_names (a:Al):a.names.length≤a.wt:=by cases a;simp only[Al.wt,Al.names];have:=strsWt_len ‹_›;omega
theorem right_ok (G:Gl) (hG:GClosed G) (e:Ex) (H:List Blk) (hw0:e.wt<4294967296):ACall Tryd.prog G 12 [e.sv] H (someB H):=by
 refine ACall.of_go TB [] tabOK _ Tryd.func12 rfl (by decide) Tryd.ntmps12 (by simp) rfl (by simp only[initEnv,Nat.reduceAdd];rfl) fun C R' hR hC hcl hB=>?_;have X:=noX;have hC':=congrArg List.length hC
 have hC':C.H.length=H.length:=by rw[hC]
 (refine run ?_;with_reducible repeat' first|exact trivial|(apply Fork.mk<;>intro hb)|apply Two.mk)
 refine go_call ?_ rfl (shape_ok G hG _ e _ (Nat.le_refl _) hw0) ?_
 ·exact evS
 rintro r H' ⟨rfl,bb,rfl⟩
 (refine run ?_;with_reducible repeat' first|exact trivial|(apply Fork.mk<;>intro hb)|apply Two.mk)
 ·exact Fin.tellN (n0:=H.length) hR (by simp) hC' hcl (.same _ rfl) ⟨rfl,_,rfl⟩
 refine go_call ?_ rfl (whole_ok G hG _ e _ (Nat.le_refl _) hw0) ?_
 ·exact evS
 rintro r H' ⟨rfl,b2,rfl⟩
 (refine run ?_;with_reducible repeat' first|exact trivial|(apply Fork.mk<;>intro hb)|apply Two.mk)
 exact Fin.tellN (n0:=H.length) hR (by simp) hC' hcl (.same _ rfl) ⟨rfl,_,rfl⟩
theorem Al.names_lt {kd:Int} {nm:Str} {nn op:Int} {names:List Str} {subs:List Ex} {binds:List Bd} {alts:List Al} {i:Nat} (h:i<alts.length):alts[i].names.length≤(Ex.mk kd nm nn op names subs binds alts).wt:=by
 have h1:=alsWt_mem (List.getElem_mem h)
 have h2:=Al.wt_names alts[i]
 simp only[Ex.wt]
 omega
theorem clone_strs (G:Gl) (hG:GClosed G) (l:List Str) (H:List Blk) (hl:l.length<1099511627776):ACall Tryd.prog G 54 [.list 1 (l.map .str)] H (fun r H'=>H'=H++[.cells 0 1 (l.map .str)]∧r= .sl H.length 0 0 l.length):=by
 refine ACall.of_go TB [2,5] tabOK _ Tryd.func54 rfl (by decide) Tryd.ntmps54 (by simp) rfl (by simp only[initEnv,Nat.reduceAdd];rfl) fun C R' hR hC hcl hB=>?_;have X:=noX;have hC':=congrArg List.length hC
 (refine runO ?_;with_reducible repeat' first|exact trivial|(apply Fork.mk<;>intro hb)|apply Two.mk)
 ·obtain rfl:l=[]:=List.length_eq_zero_iff.1 hb
  exact finK [(H.length+1,0)] (.sl H.length 0 0 0) [.cells 0 1 []] hR hC' hcl ⟨rfl,rfl⟩
 ·exact finK [(H.length+1,0)] (.sl H.length 0 0 l.length) [.cells 0 1 (l.map .str)] hR hC' hcl ⟨rfl,rfl⟩
def scopeParts:Ex→List (Ex×List Str)
 | .mk kd nm _ _ names subs binds alts=>subs.map (fun x=>(x,ownOf kd names binds))++(binds.map (fun b=>(b.e,ownOf kd names binds))++alts.map (fun a=>(a.body,a.names++if kd=6 then [nm] else [])))
theorem scope_sub {kd:Int} {nm:Str} {nn op:Int} {names:List Str} {subs:List Ex} {binds:List Bd} {alts:List Al} {i:Nat} (h:i<subs.length):(scopeParts (.mk kd nm nn op names subs binds alts))[i]? =some (subs[i],ownOf kd names binds):=by
 simp only[scopeParts]
 rw[List.getElem?_append_left (by simpa using h),List.getElem?_map,List.getElem?_eq_getElem h];rfl
theorem scope_bind {kd:Int} {nm:Str} {nn op:Int} {names:List Str} {subs:List Ex} {binds:List Bd} {alts:List Al} {i:Nat} (h:i<binds.length):(scopeParts (.mk kd nm nn op names subs binds alts))[subs.length+i]? =some (binds[i].e,ownOf kd names binds):=by
 simp only[scopeParts]
 rw[List.getElem?_append_right (by simp),List.length_map,Nat.add_sub_cancel_left,List.getElem?_append_left (by simpa using h),List.getElem?_map,List.getElem?_eq_getElem h];rfl
theorem scope_alt {kd:Int} {nm:Str} {nn op:Int} {names:List Str} {subs:List Ex} {binds:List Bd} {alts:List Al} {i:Nat} (h:i<alts.length):(scopeParts (.mk kd nm nn op names subs binds alts))[subs.length+binds.length+i]? =some (alts[i].body,alts[i].names++if kd=6 then [nm] else []):=by
 simp only[scopeParts]
 rw[List.getElem?_append_right (by simp;omega),List.length_map,show subs.length+binds.length+i - subs.length=binds.length+i by omega,List.getElem?_append_right (by simp),List.length_map,Nat.add_sub_cancel_left,List.getElem?_map,List.getElem?_eq_getElem h];rfl
theorem scopes_ok (G:Gl) (hG:GClosed G) (e:Ex) (hw:e.wt<549755813888) (fv:SV) (Hs:Nat→List Blk) (n0:Nat) (hlen:∀ i,(Hs i).length=n0) (hfu:fv.under n0=true) (hcls:closed (Hs 0)→∀ i,closed (Hs i))
 (hy:∀ i p X,(scopeParts e)[i]? =some p→ACallV Tryd.prog G fv [p.1.sv,.list 1 (p.2.map .str)] (Hs i++X) (fun r H'=>H'=Hs (i+1)++X)):
 ACall Tryd.prog G 36 [e.sv,fv] (Hs 0) (fun r H'=>H'=Hs (scopeParts e).length):=by
 obtain⟨kd,nm,nn,op,names,subs,binds,alts⟩:=e
 have hle:=Ex.wt_lens kd nm nn op names subs binds alts
 have hpl:(scopeParts (Ex.mk kd nm nn op names subs binds alts)).length=subs.length+binds.length+alts.length:=by simp[scopeParts];omega
 refine ACall.of_go TB [4] tabOK _ Tryd.func36 rfl (by decide) Tryd.ntmps36 (by simp) rfl (by simp only[initEnv,Nat.reduceAdd];rfl) fun C R' hR hC hcl hB=>?_;have X:=noX;have hC':=congrArg List.length hC
 have hcl:=hcls hcl
 have hC':=hC'.trans (hlen 0)
 have X:=hsX Hs n0 hlen
 (refine runB ?_;with_reducible repeat' first|exact trivial|(apply Fork.mk<;>intro hb)|apply Two.mk)
 refine go_cut (fun _:Unit=>[(1,fv),(2,.ptr n0 0 0 0),(4,.list 1 ((ownOf kd names binds).map .str))]) (fun _=>Hs 0++[.cells 0 8 [.agg [.int .i64 kd,.str nm,.int .i64 nn,.int .i64 op,.list 1 (names.map .str),.list 8 (exCells subs),.list 9 (bdCells binds),.list 12 (alCells alts)]]]) (fun _=>True) (fun K hK=>?_) (fun _ _=>?_)
 ·(refine runO ?_;with_reducible repeat' first|exact trivial|(apply Fork.mk<;>intro hb)|apply Two.mk)
  ·refine hK _ _ () trivial ?_
   simp only[ownOf,if_pos hb]
   exact wkS (n0:=n0) [(n0,0)] hG hB hC' (hcl 0)
  ·refine go_loop (fun i:Nat=>[(1,fv),(2,.ptr n0 0 0 0),(23,.list 9 (bdCells binds)),(24,.int .i64 binds.length),(25,.int .i64 i),(4,.sl (n0+1) 0 0 i)])
    (fun i=>Hs 0++[.cells 0 8 [.agg [.int .i64 kd,.str nm,.int .i64 nn,.int .i64 op,.list 1 (names.map .str),.list 8 (exCells subs),.list 9 (bdCells binds),.list 12 (alCells alts)]],.cells 0 1 ((binds.take i).map fun b=> .str b.name)]) (fun i=>binds.length - i) (fun i=>i≤binds.length) 0 (Nat.zero_le _) ?_ ?_
   ·exact wkS (n0:=n0) [(n0,0),(n0+1,0)] hG hB hC' (hcl 0)
   ·intro K2 i hi hK2
    (refine runO ?_;with_reducible repeat' first|exact trivial|(apply Fork.mk<;>intro hb)|apply Two.mk)
    ·refine hK2 _ _ (i+1) (by omega) (by omega) ?_
     simp only[List.take_succ_eq_append_getElem (show i<binds.length by omega),List.map_append,List.map_cons,List.map_nil]
     exact wkS (n0:=n0) [(n0,0),(n0+1,0)] hG hB hC' (hcl 0)
    ·refine hK _ _ () trivial ?_
     obtain rfl:i=binds.length:=by omega
     have e1:ownOf kd names binds=binds.map Bd.name:=by simp[ownOf,‹kd=5›]
     simp only[e1,List.take_length,List.map_map]
     exact wkS (n0:=n0) [(n0,0)] hG hB hC' (hcl 0)
  ·refine hK _ _ () trivial ?_
   simp only[ownOf,if_neg ‹¬ kd=3›,if_neg ‹¬ kd=5›,List.map_nil]
   exact wkS (n0:=n0) [(n0,0)] hG hB hC' (hcl 0)
 ·(refine runB ?_;with_reducible repeat' first|exact trivial|(apply Fork.mk<;>intro hb)|apply Two.mk)
  refine go_cut (fun _:Unit=>[(1,fv),(2,.ptr n0 0 0 0),(4,.list 1 ((ownOf kd names binds).map .str))]) (fun _=>Hs subs.length++[.cells 0 8 [.agg [.int .i64 kd,.str nm,.int .i64 nn,.int .i64 op,.list 1 (names.map .str),.list 8 (exCells subs),.list 9 (bdCells binds),.list 12 (alCells alts)]]]) (fun _=>True) (fun K hK=>?_) (fun _ _=>?_)
  ·(refine runO ?_;with_reducible repeat' first|exact trivial|(apply Fork.mk<;>intro hb)|apply Two.mk)
   refine go_loop (fun i:Nat=>[(1,fv),(2,.ptr n0 0 0 0),(4,.list 1 ((ownOf kd names binds).map .str)),(36,.list 8 (exCells subs)),(37,.int .i64 subs.length),(38,.int .i64 i)])
    (fun i=>Hs i++[.cells 0 8 [.agg [.int .i64 kd,.str nm,.int .i64 nn,.int .i64 op,.list 1 (names.map .str),.list 8 (exCells subs),.list 9 (bdCells binds),.list 12 (alCells alts)]]]) (fun i=>subs.length - i) (fun i=>i≤subs.length) 0 (Nat.zero_le _) ?_ ?_
   ·exact wkS (n0:=n0) [(n0,0)] hG hB hC' (hcl 0)
   ·intro K2 i hi hK2
    (refine runO ?_;with_reducible repeat' first|exact trivial|(apply Fork.mk<;>intro hb)|apply Two.mk)
    ·refine callV (hy i _ _ (scope_sub (by omega))) ?_
     rintro r H' rfl
     (refine runO ?_;with_reducible repeat' first|exact trivial|(apply Fork.mk<;>intro hb)|apply Two.mk)
     refine hK2 _ _ (i+1) (by omega) (by omega) ?_
     exact wkS (n0:=n0) [(n0,0)] hG hB hC' (hcl (i+1))
    ·obtain rfl:i=subs.length:=by omega
     refine hK _ _ () trivial ?_
     exact wkS (n0:=n0) [(n0,0)] hG hB hC' (hcl _)
  ·(refine runB ?_;with_reducible repeat' first|exact trivial|(apply Fork.mk<;>intro hb)|apply Two.mk)
   refine go_cut (fun _:Unit=>[(1,fv),(2,.ptr n0 0 0 0),(4,.list 1 ((ownOf kd names binds).map .str))]) (fun _=>Hs (subs.length+binds.length)++[.cells 0 8 [.agg [.int .i64 kd,.str nm,.int .i64 nn,.int .i64 op,.list 1 (names.map .str),.list 8 (exCells subs),.list 9 (bdCells binds),.list 12 (alCells alts)]]]) (fun _=>True) (fun K hK=>?_) (fun _ _=>?_)
   ·(refine runO ?_;with_reducible repeat' first|exact trivial|(apply Fork.mk<;>intro hb)|apply Two.mk)
    refine go_loop (fun i:Nat=>[(1,fv),(2,.ptr n0 0 0 0),(4,.list 1 ((ownOf kd names binds).map .str)),(48,.list 9 (bdCells binds)),(49,.int .i64 binds.length),(50,.int .i64 i)])
     (fun i=>Hs (subs.length+i)++[.cells 0 8 [.agg [.int .i64 kd,.str nm,.int .i64 nn,.int .i64 op,.list 1 (names.map .str),.list 8 (exCells subs),.list 9 (bdCells binds),.list 12 (alCells alts)]]]) (fun i=>binds.length - i) (fun i=>i≤binds.length) 0 (Nat.zero_le _) ?_ ?_
    ·exact wkS (n0:=n0) [(n0,0)] hG hB hC' (hcl _)
    ·intro K2 i hi hK2
     (refine runO ?_;with_reducible repeat' first|exact trivial|(apply Fork.mk<;>intro hb)|apply Two.mk)
     ·refine callV (hy (subs.length+i) _ _ (scope_bind (by omega))) ?_
      rintro r H' rfl
      (refine runO ?_;with_reducible repeat' first|exact trivial|(apply Fork.mk<;>intro hb)|apply Two.mk)
      refine hK2 _ _ (i+1) (by omega) (by omega) ?_
      exact wkS (n0:=n0) [(n0,0)] hG hB hC' (hcl _)
     ·obtain rfl:i=binds.length:=by omega
      refine hK _ _ () trivial ?_
      exact wkS (n0:=n0) [(n0,0)] hG hB hC' (hcl _)
   ·(refine runO ?_;with_reducible repeat' first|exact trivial|(apply Fork.mk<;>intro hb)|apply Two.mk)
    refine go_loop (fun i:Nat=>[(1,fv),(2,.ptr n0 0 0 0),(61,.list 12 (alCells alts)),(62,.int .i64 alts.length),(63,.int .i64 i)])
     (fun i=>Hs (subs.length+binds.length+i)++[.cells 0 8 [.agg [.int .i64 kd,.str nm,.int .i64 nn,.int .i64 op,.list 1 (names.map .str),.list 8 (exCells subs),.list 9 (bdCells binds),.list 12 (alCells alts)]]]) (fun i=>alts.length - i) (fun i=>i≤alts.length) 0 (Nat.zero_le _) ?_ ?_
    ·exact wkS (n0:=n0) [(n0,0)] hG hB hC' (hcl _)
    ·intro K2 i hi hK2
     (refine runO ?_;with_reducible repeat' first|exact trivial|(apply Fork.mk<;>intro hb)|apply Two.mk)
     ·have hi':i<alts.length:=by omega
      have hnl:=Al.names_lt (kd:=kd) (nm:=nm) (nn:=nn) (op:=op) (names:=names) (subs:=subs) (binds:=binds) hi'
      refine callS (clone_strs G hG alts[i].names _ (by omega)) ?_
      rintro r H' ⟨rfl,rfl⟩
      simp only[List.append_assoc,List.cons_append,List.nil_append,List.length_append,List.length_cons,List.length_nil,List.length_set,X,Nat.reduceAdd]
      (refine runC ?_;with_reducible repeat' first|exact trivial|(apply Fork.mk<;>intro hb)|apply Two.mk)
      refine go_cut (fun _:Unit=>[(1,fv),(2,.ptr n0 0 0 0),(61,.list 12 (alCells alts)),(62,.int .i64 alts.length),(63,.int .i64 i),(12,.ptr (n0+1) 0 0 0),(13,.list 1 ((alts[i].names++if kd=6 then [nm] else []).map .str))])
       (fun _=>Hs (subs.length+binds.length+i)++[.cells 0 8 [.agg [.int .i64 kd,.str nm,.int .i64 nn,.int .i64 op,.list 1 (names.map .str),.list 8 (exCells subs),.list 9 (bdCells binds),.list 12 (alCells alts)]],.cells 0 12 [.agg (.int .i64 alts[i].kind:: .str alts[i].name:: .int .i64 alts[i].n:: .list 1 (alts[i].names.map .str)::alts[i].body.cells)]]) (fun _=>True) (fun K3 hK3=>?_) (fun _ _=>?_)
      ·(refine runO ?_;with_reducible repeat' first|exact trivial|(apply Fork.mk<;>intro hb)|apply Two.mk)
       ·refine hK3 _ _ () trivial ?_
        simp only[if_pos hb,List.map_append,List.map_cons,List.map_nil,Nat.add_assoc]
        exact wkS (n0:=n0) [(n0,0),(n0+1,0)] hG hB hC' (hcl _)
       ·refine hK3 _ _ () trivial ?_
        simp only[if_neg hb,List.append_nil,Nat.add_assoc]
        exact wkS (n0:=n0) [(n0,0),(n0+1,0)] hG hB hC' (hcl _)
      ·(refine runO ?_;with_reducible repeat' first|exact trivial|(apply Fork.mk<;>intro hb)|apply Two.mk)
       refine callV (hy (subs.length+binds.length+i) _ _ (scope_alt hi')) ?_
       rintro r H' rfl
       (refine runO ?_;with_reducible repeat' first|exact trivial|(apply Fork.mk<;>intro hb)|apply Two.mk)
       refine hK2 _ _ (i+1) (by omega) (by omega) ?_
       exact wkS (n0:=n0) [(n0,0)] hG hB hC' (hcl _)
     ·obtain rfl:i=alts.length:=by omega
      refine Fin.tellN (n0:=n0) hR (hlen _) hC' (hcl _) (.same _ rfl) ?_
      rw[hpl]
def cntB:List (Str×Int)→Str→Int
 |[],_=>0
 |(k,n)::r,s=>if s=k then n else cntB r s
def setB:List (Str×Int)→Str→Int→List (Str×Int)
 |[],s,n=>[(s,n)]
 |(k,m)::r,s,n=>if s=k then (s,n)::r else (k,m)::setB r s n
def esB (l:List (Str×Int)):List (SV×SV):=l.map fun p=>(.str p.1,.int .i64 p.2)
def putO (l:List Str) (s:Str):List Str:=if s∈l then l else l++[s]
def esO (l:List Str):List (SV×SV):=l.map fun s=>(.str s,.bool true)
theorem findSV_esB:∀ (l:List (Str×Int)) (s:Str),(findSV (esB l) (.str s)).getD (.int .i64 0)= .int .i64 (cntB l s)
 |[],s=>rfl
 |(k,n)::r,s=>by
  simp only[esB,List.map_cons,findSV,SV.keyEq,cntB]
  by_cases h:s=k
  ·simp[h]
  ·simp only[beq_eq_false_iff_ne.2 h,h,if_false,Bool.false_eq_true]
   exact findSV_esB r s
theorem setSV_esB:∀ (l:List (Str×Int)) (s:Str) (n:Int),setSV (esB l) (.str s) (.int .i64 n)=esB (setB l s n)
 |[],s,n=>rfl
 |(k,m)::r,s,n=>by
  simp only[esB,List.map_cons,setSV,SV.keyEq,setB]
  by_cases h:s=k
  ·simp[h]
  ·simp only[beq_eq_false_iff_ne.2 h,h,if_false,Bool.false_eq_true]
   rw[show setSV (List.map _ r) (.str s) (.int .i64 n)=_ from setSV_esB r s n]
   rfl
theorem setSV_esO:∀ (l:List Str) (s:Str),setSV (esO l) (.str s) (.bool true)=esO (putO l s)
 |[],s=>rfl
 |k::r,s=>by
  simp only[esO,List.map_cons,setSV,SV.keyEq,putO]
  by_cases h:s=k
  ·simp[h]
  ·simp only[beq_eq_false_iff_ne.2 h,if_false,Bool.false_eq_true]
   rw[show setSV (List.map _ r) (.str s) (.bool true)=_ from setSV_esO r s]
   simp only[esO,putO,List.mem_cons,h,false_or]
   split<;>rfl
theorem cnt_set:∀ (l:List (Str×Int)) (s:Str) (n:Int) (t:Str),cntB (setB l s n) t=if t=s then n else cntB l t
 |[],s,n,t=>by simp[setB,cntB]
 |(k,m)::r,s,n,t=>by
  by_cases h:s=k
  ·subst h
   by_cases ht:t=s<;>simp[setB,cntB,ht]
  ·simp only[setB,if_neg h,cntB,cnt_set r s n t]
   by_cases ht:t=k
   ·subst ht
    rw[if_pos rfl,if_neg (fun e=>h e.symm)]
    rw[if_pos rfl]
   ·rw[if_neg ht,if_neg ht]
def incB (b:List (Str×Int)) (l:List Str):List (Str×Int):=l.foldl (fun b n=>setB b n (cntB b n+1)) b
def decB (b:List (Str×Int)) (l:List Str):List (Str×Int):=l.foldl (fun b n=>setB b n (cntB b n - 1)) b
theorem cnt_inc:∀ (l:List Str) (b:List (Str×Int)) (s:Str),cntB (incB b l) s=cntB b s+l.count s
 |[],b,s=>by simp[incB]
 |x::l,b,s=>by
  rw[incB,List.foldl_cons,← incB,cnt_inc l,cnt_set,List.count_cons]
  by_cases h:s=x
  ·subst h;simp;omega
  ·have h2:¬ x=s:=fun e=>h e.symm
   simp[h,h2]
theorem cnt_dec:∀ (l:List Str) (b:List (Str×Int)) (s:Str),cntB (decB b l) s=cntB b s - l.count s
 |[],b,s=>by simp[decB]
 |x::l,b,s=>by
  rw[decB,List.foldl_cons,← decB,cnt_dec l,cnt_set,List.count_cons]
  by_cases h:s=x
  ·subst h;simp;omega
  ·have h2:¬ x=s:=fun e=>h e.symm
   simp[h,h2]
theorem inc_snoc (b:List (Str×Int)) (l:List Str) (x:Str):incB b (l++[x])=setB (incB b l) x (cntB (incB b l) x+1):=by simp[incB]
theorem dec_snoc (b:List (Str×Int)) (l:List Str) (x:Str):decB b (l++[x])=setB (decB b l) x (cntB (decB b l) x - 1):=by simp[decB]
abbrev BO:=List (Str×Int)×List Str
def cstep (f:Ex→BO→BO) (st:BO) (p:Ex×List Str):BO:=(decB (f p.1 (incB st.1 p.2,st.2)).1 p.2,(f p.1 (incB st.1 p.2,st.2)).2)
def unbF:Nat→Ex→BO→BO
 |0,_,st=>st
 |m+1,e,st=>if e.kind=1 then (if cntB st.1 e.name=0 then (st.1,putO st.2 e.name) else st) else (scopeParts e).foldl (cstep (unbF m)) st
theorem unb_cnt:∀ (m:Nat) (e:Ex) (st:BO) (s:Str),cntB (unbF m e st).1 s=cntB st.1 s
 |0,e,st,s=>rfl
 |m+1,e,st,s=>by
  rw[unbF]
  split
  ·split<;>rfl
  ·generalize scopeParts e=l
   induction l generalizing st with
   |nil=>rfl
   |cons p l ih=>
    rw[List.foldl_cons,ih]
    simp only[cstep,cnt_dec,unb_cnt m,cnt_inc]
    omega
theorem cstep_cnt (m:Nat) (st:BO) (p:Ex×List Str) (s:Str):cntB (cstep (unbF m) st p).1 s=cntB st.1 s:=by
 simp only[cstep,cnt_dec,unb_cnt m,cnt_inc]
 omega
theorem csteps_cnt (m:Nat):∀ (l:List (Ex×List Str)) (st:BO) (s:Str),cntB (l.foldl (cstep (unbF m)) st).1 s=cntB st.1 s
 |[],st,s=>rfl
 |p::l,st,s=>by rw[List.foldl_cons,csteps_cnt m l,cstep_cnt]
theorem scope_wt {e:Ex} {p:Ex×List Str} (h:p∈scopeParts e):p.1.wt+p.2.length<e.wt:=by
 obtain⟨kd,nm,nn,op,names,subs,binds,alts⟩:=e
 have h1:=strsWt_len names
 have h2:∀ (l:List Bd) (b:Bd),b∈l→b.e.wt+l.length≤bdsWt l:=fun l=>by
  induction l with
  |nil=>intro b hb;cases hb
  |cons x r ih=>
   intro b hb
   simp only[bdsWt,List.length_cons]
   have hx:=x.wt_gt
   rcases List.mem_cons.1 hb with rfl|hb
   ·have:=bdsWt_len r;omega
   ·have:=ih b hb;omega
 have hown:(ownOf kd names binds).length≤strsWt names+binds.length:=by
  unfold ownOf
  split
  ·omega
  ·split<;>simp
 have h3:=bdsWt_len binds
 simp only[Ex.wt]
 simp only[scopeParts,List.mem_append,List.mem_map] at h
 rcases h with⟨x,hx,rfl⟩|⟨b,hb,rfl⟩|⟨a,ha,rfl⟩
 ·have:=exsWt_mem hx
  simp only;omega
 ·have:=h2 binds b hb
  simp only
  have:(ownOf kd names binds).length≤strsWt names+binds.length:=hown
  unfold ownOf
  split
  ·omega
  ·split
   ·simp;omega
   ·simp;omega
 ·have h4:=alsWt_mem ha
  obtain⟨ak,an,am,al,ab⟩:=a
  simp only[Al.wt] at h4
  simp only[Al.body,Al.names,List.length_append]
  have:=strsWt_len al
  split<;>simp<;>omega
def UH (H:List Blk) (ib io:Nat) (st:BO):List Blk:=(H.set ib (.map none (esB st.1))).set io (.map none (esO st.2))
theorem esB_under (n:Nat):∀ l:List (Str×Int),belowE n (esB l)=true
 |[]=>rfl
 |p::l=>by simp only[esB,List.map_cons,belowE,SV.under,Bool.and_self,Bool.true_and];exact esB_under n l
theorem esO_under (n:Nat):∀ l:List Str,belowE n (esO l)=true
 |[]=>rfl
 |p::l=>by simp only[esO,List.map_cons,belowE,SV.under,Bool.and_self,Bool.true_and];exact esO_under n l
structure MapsAt (M:BO→List Blk) (n0 ib io:Nat):Prop where
 len:∀ st,(M st).length=n0
 lt:ib<n0∧io<n0∧ib≠io
 get:∀ st,(M st)[ib]? =some (.map none (esB st.1))∧(M st)[io]? =some (.map none (esO st.2))
 set:∀ st b o,(M st).set ib (.map none (esB b))=M (b,st.2)∧(M st).set io (.map none (esO o))=M (st.1,o)
 rest:∀ st st' i,i≠ib→i≠io→(M st)[i]? =(M st')[i]?
theorem UH_maps {H:List Blk} {ib io:Nat} {st0:BO} (hb:H[ib]? =some (.map none (esB st0.1))) (ho:H[io]? =some (.map none (esO st0.2))) (hne:ib≠io):MapsAt (UH H ib io) H.length ib io∧UH H ib io st0=H:=by
 have lb:=(List.getElem?_eq_some_iff.1 hb).1
 have lo:=(List.getElem?_eq_some_iff.1 ho).1
 refine⟨⟨fun st=>by simp[UH],⟨lb,lo,hne⟩,fun st=>⟨?_,?_⟩,fun st b o=>⟨?_,?_⟩,fun st st' i h1 h2=>?_⟩,?_⟩
 ·simp only[UH]
  rw[List.getElem?_set_ne (fun e=>hne e.symm),List.getElem?_set_self lb]
 ·simp only[UH]
  rw[List.getElem?_set_self (by simpa using lo)]
 ·simp only[UH]
  rw[List.set_comm _ _ (fun e=>hne e.symm),List.set_set]
 ·simp only[UH]
  rw[List.set_set]
 ·simp only[UH]
  rw[List.getElem?_set_ne (fun e=>h2 e.symm),List.getElem?_set_ne (fun e=>h1 e.symm),List.getElem?_set_ne (fun e=>h2 e.symm),List.getElem?_set_ne (fun e=>h1 e.symm)]
 ·simp only[UH]
  rw[set_same hb,set_same ho]
theorem MapsAt.cls {M:BO→List Blk} {n0 ib io:Nat} (h:MapsAt M n0 ib io) {st st':BO} (hc:closed (M st)):closed (M st'):=by
 intro B hB
 obtain⟨i,hi,rfl⟩:=List.getElem_of_mem hB
 have hi2:i<(M st).length:=by rw[h.len] at hi ⊢;exact hi
 have hl:(M st').length=(M st).length:=by rw[h.len,h.len]
 have hg:(M st')[i]? =some (M st')[i]:=List.getElem?_eq_getElem hi
 rw[hl]
 show Blk.under _ ((M st')[i])=true
 by_cases h1:i=ib
 ·subst h1;rw[(h.get st').1] at hg;rw[← Option.some.inj hg];exact esB_under _ _
 ·by_cases h2:i=io
  ·subst h2;rw[(h.get st').2] at hg;rw[← Option.some.inj hg];exact esO_under _ _
  ·rw[h.rest st' st i h1 h2,List.getElem?_eq_getElem hi2] at hg
   rw[← Option.some.inj hg]
   exact hc _ (List.getElem_mem hi2)
theorem MapsAt.app {M:BO→List Blk} {n0 ib io:Nat} (h:MapsAt M n0 ib io) (L:List Blk):MapsAt (fun st=>M st++L) (n0+L.length) ib io:=by
 have lb:∀ st,ib<(M st).length:=fun st=>by rw[h.len];exact h.lt.1
 have lo:∀ st,io<(M st).length:=fun st=>by rw[h.len];exact h.lt.2.1
 refine⟨fun st=>by simp[h.len],⟨by have:=h.lt.1;omega,by have:=h.lt.2.1;omega,h.lt.2.2⟩,fun st=>⟨?_,?_⟩,fun st b o=>⟨?_,?_⟩,fun st st' i h1 h2=>?_⟩
 ·rw[List.getElem?_append_left (lb st)];exact(h.get st).1
 ·rw[List.getElem?_append_left (lo st)];exact(h.get st).2
 ·rw[set_old (lb st),(h.set st b o).1]
 ·rw[set_old (lo st),(h.set st b o).2]
 ·rw[List.getElem?_append,List.getElem?_append,h.len,h.len,h.rest st st' i h1 h2]
theorem MapsAt.UH {M:BO→List Blk} {n0 ib io:Nat} (h:MapsAt M n0 ib io) (st st':BO):UH (M st) ib io st'=M st':=by
 simp only[Go.Proofs.YtggmfabkpnfodaaDoor.UH]
 rw[(h.set st st'.1 []).1,(h.set _ [] st'.2).2]
theorem MapsAt.X {M:BO→List Blk} {n0 ib io:Nat} (h:MapsAt M n0 ib io):((∀ st L,(M st++L)[ib]? =some (.map none (esB st.1)))∧(∀ st L,(M st++L)[io]? =some (.map none (esO st.2))))∧
 ((∀ st b L,(M st++L).set ib (.map none (esB b))=M (b,st.2)++L)∧(∀ st o L,(M st++L).set io (.map none (esO o))=M (st.1,o)++L))∧
 ((∀ st b,(M st).set ib (.map none (esB b))=M (b,st.2))∧(∀ st o,(M st).set io (.map none (esO o))=M (st.1,o)))∧
 ((∀ st,(M st)[ib]? =some (.map none (esB st.1)))∧(∀ st,(M st)[io]? =some (.map none (esO st.2))))∧
 ((∀ st,(M st).length=n0)∧(∀ st L,(M st++L)[n0]? =L[0]?)∧(∀ st L k,(M st++L)[n0+k]? =L[k]?)∧(∀ st L x,(M st++L).set n0 x=M st++L.set 0 x)∧(∀ st L k x,(M st++L).set (n0+k) x=M st++L.set k x)):=by
 have lb:∀ st,ib<(M st).length:=fun st=>by rw[h.len];exact h.lt.1
 have lo:∀ st,io<(M st).length:=fun st=>by rw[h.len];exact h.lt.2.1
 exact⟨⟨fun st L=>by rw[List.getElem?_append_left (lb st)];exact(h.get st).1,fun st L=>by rw[List.getElem?_append_left (lo st)];exact(h.get st).2⟩,
  ⟨fun st b L=>by rw[set_old (lb st),(h.set st b []).1],fun st o L=>by rw[set_old (lo st),(h.set st [] o).2]⟩,
  ⟨fun st b=>(h.set st b []).1,fun st o=>(h.set st [] o).2⟩,
  ⟨fun st=>(h.get st).1,fun st=>(h.get st).2⟩,hsX M n0 h.len⟩
attribute [go_sem] findSV_esB setSV_esB setSV_esO
def cntOK (b:List (Str×Int)) (w:Nat):Prop:=∀ s,0≤cntB b s∧cntB b s+w<1099511627776
def UnbOK (G:Gl) (f:Ex→BO→BO) (e:Ex):Prop:=∀ (H:List Blk) (ib io:Nat) (st:BO),H[ib]? =some (.map none (esB st.1))→H[io]? =some (.map none (esO st.2))→ib≠io→cntOK st.1 e.wt→
 ACall Tryd.prog G 18 [e.sv,.map ib,.map io] H (fun r H'=>H'=UH H ib io (f e st))
theorem unbound1_ok (G:Gl) (hG:GClosed G) (f:Ex→BO→BO) (s:Ex) (names:List Str) (hf:UnbOK G f s) (hfc:∀ st t,cntB (f s st).1 t=cntB st.1 t) (M:BO→List Blk) (n0 ib io pb po:Nat) (hM:MapsAt M n0 ib io)
 (hpb:∀ st L,(M st++L)[pb]? =some (.cells 0 1 [.map ib])) (hpo:∀ st L,(M st++L)[po]? =some (.cells 0 1 [.map io])) (hp:pb<n0∧po<n0) (st:BO) (hc:cntOK st.1 (s.wt+names.length)) (hw:s.wt+names.length<549755813888):
 ACall Tryd.prog G 37 [s.sv,.list 1 (names.map .str),.ptr pb 0 0 0,.ptr po 0 0 0] (M st) (fun r H'=>H'=M (cstep f st (s,names))):=by
 refine ACall.of_go TB [] tabOK _ Tryd.func37 rfl (by decide) Tryd.ntmps37 (by simp) rfl (by simp only[initEnv,Nat.reduceAdd];rfl) fun C R' hR hC hcl hB=>?_;have X:=noX;have hC':=congrArg List.length hC
 have hC':=hC'.trans (hM.len st)
 have X:=And.intro hM.X (And.intro hpb hpo)
 have hlen:=hM.len
 have hcls:∀ st',closed (M st'):=fun st'=>hM.cls hcl
 have hc2:=hc
 (refine runO ?_;with_reducible repeat' first|exact trivial|(apply Fork.mk<;>intro hb)|apply Two.mk)
 refine go_loop (fun i:Nat=>[(1,.list 1 (names.map .str)),(2,.ptr pb 0 0 0),(3,.ptr po 0 0 0),(4,.ptr n0 0 0 0),(10,.list 1 (names.map .str)),(11,.int .i64 names.length),(12,.int .i64 i)])
  (fun i=>M (incB st.1 (names.take i),st.2)++[.cells 0 8 [s.sv]]) (fun i=>names.length - i) (fun i=>i≤names.length) 0 (Nat.zero_le _) ?_ ?_
 ·exact wkS (n0:=n0) [(n0,0)] hG hB hC' (hcls _)
 ·intro K i hi hK
  (refine runO ?_;with_reducible repeat' first|exact trivial|(apply Fork.mk<;>intro hb)|apply Two.mk)
  ·have hi':i<names.length:=by omega
   have h1:=cnt_inc (names.take i) st.1 names[i]
   have h2:=hc2 names[i]
   have h3:(names.take i).count names[i]≤(names.take i).length:=List.count_le_length
   rw[List.length_take] at h3
   rw[wrap_i64 _ (by omega),← inc_snoc,← List.take_succ_eq_append_getElem hi']
   exact hK _ _ (i+1) (by omega) (by omega) (wkS (n0:=n0) [(n0,0)] hG hB hC' (hcls _))
  ·obtain rfl:i=names.length:=by omega
   rw[List.take_length]
   have hcall:=hf (M (incB st.1 names,st.2)++[.cells 0 8 [s.sv]]) ib io (incB st.1 names,st.2) (hM.X.1.1 _ _) (hM.X.1.2 _ _) hM.lt.2.2 (fun t=>by
    have h1:=cnt_inc names st.1 t
    have h2:=hc2 t
    have h3:names.count t≤names.length:=List.count_le_length
    simp only
    omega)
   rw[(hM.app _).UH] at hcall
   refine callS hcall ?_
   rintro r H' rfl
   generalize hst2:f s (incB st.1 names,st.2)=st2
   have hcn:∀ t,cntB st2.1 t=cntB st.1 t+names.count t:=fun t=>by rw[← hst2,hfc,cnt_inc]
   (refine runO ?_;with_reducible repeat' first|exact trivial|(apply Fork.mk<;>intro hb)|apply Two.mk)
   refine go_loop (fun i:Nat=>[(2,.ptr pb 0 0 0),(25,.list 1 (names.map .str)),(26,.int .i64 names.length),(27,.int .i64 i)])
    (fun i=>M (decB st2.1 (names.take i),st2.2)++[]) (fun i=>names.length - i) (fun i=>i≤names.length) 0 (Nat.zero_le _) ?_ ?_
   ·exact wkS (n0:=n0) [] hG hB hC' (hcls _)
   ·intro K2 i hi hK2
    (refine runO ?_;with_reducible repeat' first|exact trivial|(apply Fork.mk<;>intro hb)|apply Two.mk)
    ·have hi':i<names.length:=by omega
     have h1:=cnt_dec (names.take i) st2.1 names[i]
     rw[hcn] at h1
     have h2:=hc2 names[i]
     have h3:(names.take i).count names[i]≤(names.take i).length:=List.count_le_length
     have h4:names.count names[i]≤names.length:=List.count_le_length
     rw[List.length_take] at h3
     rw[wrap_i64 _ (by omega),← dec_snoc,← List.take_succ_eq_append_getElem hi']
     exact hK2 _ _ (i+1) (by omega) (by omega) (wkS (n0:=n0) [] hG hB hC' (hcls _))
    ·obtain rfl:i=names.length:=by omega
     rw[List.take_length]
     refine Fin.tellN (n0:=n0) hR (hlen _) hC' (hcls _) (.same _ rfl) ?_
     simp only[cstep,hst2]
theorem unbound_ok (G:Gl) (hG:GClosed G):∀ (m:Nat) (e:Ex),e.wt≤m→e.wt<549755813888→UnbOK G (unbF m) e
 |0,e,hw,_=>by have:=e.wt_pos;omega
 |m+1,e,hw,hw0=>by
  intro H ib io st hb ho hne hc
  obtain⟨kd,nm,nn,op,names,subs,binds,alts⟩:=e
  obtain⟨hM,hM0⟩:=UH_maps hb ho hne
  generalize UH H ib io=M at hM hM0 ⊢
  have hlt:=hM.lt
  have hlen:=hM.len
  rw[← hM0]
  refine ACall.of_go TB [] tabOK _ Tryd.func18 rfl (by decide) Tryd.ntmps18 (by simp) rfl (by simp only[initEnv,Nat.reduceAdd];rfl) fun C R' hR hC hcl hB=>?_;have X:=noX;have hC':=congrArg List.length hC
  have hC':=hC'.trans (hlen st)
  generalize H.length=n0 at hM hlt hlen hC' ⊢
  have X:=hM.X
  have hcls:∀ st',closed (M st'):=fun st'=>hM.cls hcl
  have hu:kd≠1→unbF (m+1) (.mk kd nm nn op names subs binds alts) st=(scopeParts (.mk kd nm nn op names subs binds alts)).foldl (cstep (unbF m)) st:=fun h=>by rw[unbF];exact if_neg h
  have hv:kd=1→unbF (m+1) (.mk kd nm nn op names subs binds alts) st=if cntB st.1 nm=0 then (st.1,putO st.2 nm) else st:=fun h=>by rw[unbF];exact if_pos h
  (refine run ?_;with_reducible repeat' first|exact trivial|(apply Fork.mk<;>intro hb)|apply Two.mk)
  ·refine Fin.tellN (n0:=n0) hR (hlen _) hC' (hcls _) (.same _ rfl) ?_
   have h3:= ‹(decide (kd=1)&&decide (cntB st.1 nm=0))=true›
   simp only[Bool.and_eq_true,decide_eq_true_eq] at h3
   rw[hv hb,if_pos h3.2]
  ·exfalso;simp_all
  ·refine Fin.tellN (n0:=n0) hR (hlen _) hC' (hcls _) (.same _ rfl) ?_
   have h3:= ‹(decide (kd=1)&&decide (cntB st.1 nm=0))=false›
   simp only[Bool.and_eq_false_iff,decide_eq_false_iff_not] at h3
   rw[hv hb,if_neg (by rcases h3 with h3|h3;exact absurd hb h3;exact h3)]
  ·let stI:Nat→BO:=fun i=>((scopeParts (.mk kd nm nn op names subs binds alts)).take i).foldl (cstep (unbF m)) st
   have hsc:=scopes_ok G hG (.mk kd nm nn op names subs binds alts) hw0 (.fn (.func 37) [] [.ptr (n0+1) 0 0 0,.ptr (n0+2) 0 0 0])
    (fun i=>M (stI i)++[.cells 0 8 [.agg [.int .i64 kd,.str nm,.int .i64 nn,.int .i64 op,.list 1 (names.map .str),.list 8 (exCells subs),.list 9 (bdCells binds),.list 12 (alCells alts)]],.cells 0 1 [.map ib],.cells 0 1 [.map io]]) (n0+3) (fun i=>by simp[hlen]) (by simp[SV.under,SV.underL]) (fun hc i=>(hM.app _).cls hc) (fun i p Y hp=>by
     refine ACallV.of ?_
     have hpm:=List.mem_of_getElem? hp
     have hpw:=scope_wt hpm
     have hst:stI (i+1)=cstep (unbF m) (stI i) p:=by
      have hi:=(List.getElem?_eq_some_iff.1 hp)
      obtain⟨hi1,hi2⟩:=hi
      simp only[stI,List.take_succ_eq_append_getElem hi1,List.foldl_append,List.foldl_cons,List.foldl_nil,hi2]
     have:=unbound1_ok G hG (unbF m) p.1 p.2 (unbound_ok G hG m p.1 (by omega) (by omega)) (fun st t=>unb_cnt m p.1 st t) (fun st=>(M st++[.cells 0 8 [.agg [.int .i64 kd,.str nm,.int .i64 nn,.int .i64 op,.list 1 (names.map .str),.list 8 (exCells subs),.list 9 (bdCells binds),.list 12 (alCells alts)]],.cells 0 1 [.map ib],.cells 0 1 [.map io]])++Y) _ ib io (n0+1) (n0+2) ((hM.app _).app Y)
      (fun st L=>by simp only[List.append_assoc,List.cons_append,X,List.getElem?_cons_succ,List.getElem?_cons_zero]) (fun st L=>by simp only[List.append_assoc,List.cons_append,X,List.getElem?_cons_succ,List.getElem?_cons_zero]) (by simp;omega) (stI i) (fun t=>by
       have h1:=csteps_cnt m ((scopeParts (.mk kd nm nn op names subs binds alts)).take i) st t
       have h2:=hc t
       show 0≤cntB (List.foldl (cstep (unbF m)) st _).1 t∧cntB (List.foldl (cstep (unbF m)) st _).1 t+_<_
       omega) (by omega)
     simp only[hst]
     exact this)
   simp only[show stI 0=st from rfl] at hsc
   refine callS hsc ?_
   rintro r H' rfl
   have hend:stI (scopeParts (.mk kd nm nn op names subs binds alts)).length=unbF (m+1) (.mk kd nm nn op names subs binds alts) st:=by
    rw[hu hb];simp only[stI,List.take_length]
   simp only[hend]
   (refine run ?_;with_reducible repeat' first|exact trivial|(apply Fork.mk<;>intro hb)|apply Two.mk)
   exact Fin.tellN (n0:=n0) hR (hlen _) hC' (hcls _) (.same _ rfl) rfl
theorem met_perm {l:List Str} {born:List Nat} {idx:List Nat} (hnd:idx.Nodup) (hlt:∀ i∈idx,i<l.length) (hb:born.Nodup) (hlb:born.length=l.length)
 (hall:∀ b∈born,(idx.map fun i=>born.getD i 0).toArray.contains b=true):(idx.map fun i=>l.getD i []).Perm l:=by
 have hin:∀ i,i<l.length→i∈idx:=fun i hi=>by
  have hi':i<born.length:=by omega
  have:=hall born[i] (List.getElem_mem hi')
  simp only[List.contains_toArray,List.contains_iff_mem,List.mem_map] at this
  obtain⟨j,hj,e⟩:=this
  have hj':j<born.length:=by have:=hlt j hj;omega
  rw[List.getD_eq_getElem?_getD,List.getElem?_eq_getElem hj'] at e
  simp only[Option.getD_some] at e
  obtain rfl:j=i:=(List.getElem_inj hb).1 e
  exact hj
 have hp:idx.Perm (List.range l.length):=(List.perm_ext_iff_of_nodup hnd List.nodup_range).2 fun i=>by
  rw[List.mem_range];exact⟨hlt i,hin i⟩
 have:=hp.map fun i=>l.getD i []
 refine this.trans (.of_eq ?_)
 apply List.ext_getElem?
 intro i
 rw[List.getElem?_map]
 by_cases h:i<l.length
 ·rw[List.getElem?_range h];simp[h]
 ·rw[List.getElem?_eq_none (by simpa using h),List.getElem?_eq_none (by omega)];rfl
theorem met_le {n:Nat} {idx:List Nat} (hnd:idx.Nodup) (hlt:∀ i∈idx,i<n):idx.length≤n:=by
 have hp:idx.Perm ((List.range n).filter fun i=>decide (i∈idx)):=(List.perm_ext_iff_of_nodup hnd (List.nodup_range.filter _)).2 fun i=>by
  simp only[List.mem_filter,List.mem_range,decide_eq_true_eq]
  exact⟨fun h=>⟨hlt i h,h⟩,fun h=>h.2⟩
 have h2:=List.length_filter_le (fun i=>decide (i∈idx)) (List.range n)
 rw[← hp.length_eq,List.length_range] at h2
 exact h2
theorem keys1_ok (G:Gl) (hG:GClosed G) (n1 pb n0 bm clk:Nat) (born:List Nat) (l:List Str) (vs:List SV) (hlb:born.length=l.length) (hlv:vs.length=l.length) (hnd:born.Nodup) (M:List Str→List Blk) (hlen:∀ s,(M s).length=n0) (h1:n1<n0) (hll:l.length<1099511627776)
 (hpb:∀ s L,(M s++L)[pb]? =some (.cells 0 1 [.imap bm clk born none (l.map .str) vs])) (hvs:∀ n,SV.underL n vs=true) (hcls:closed (M [])→∀ s,closed (M s))
 (hy:∀ s x X,s.length<l.length→ACallV Tryd.prog G (.it n1) [.str x] (M s++X) (fun r H'=>H'=M (s++[x])++X∧r= .bool true)):
 ACall Tryd.prog G 40 [.it n1,.ptr pb 0 0 0] (M []) (fun r H'=>∃ s,s.Perm l∧H'=M s):=by
 refine ACall.of_go TB [] tabOK _ Tryd.func40 rfl (by decide) Tryd.ntmps40 (by simp) rfl (by simp only[initEnv,Nat.reduceAdd];rfl) fun C R' hR hC hcl hB=>?_;have X:=noX;have hC':=congrArg List.length hC
 have hC':=hC'.trans (hlen [])
 have hcl:=hcls hcl
 have hpb0:∀ s,(M s)[pb]? =some (.cells 0 1 [.imap bm clk born none (l.map .str) vs]):=fun s=>by simpa using hpb s []
 have X:=And.intro (hsX M n0 hlen) (And.intro hpb hpb0)
 have hks:∀ n,SV.underL n (l.map SV.str)=true:=fun n=>strs_under n l
 have him:(SV.imap bm clk born none (l.map SV.str) vs).under n0=true:=by simp only[SV.under,hks,hvs,Bool.and_self]
 (refine run ?_;with_reducible repeat' first|exact trivial|(apply Fork.mk<;>intro hb)|apply Two.mk)
 refine go_range rfl rfl rfl ?_
 simp only[hlen]
 (refine run ?_;with_reducible repeat' first|exact trivial|(apply Fork.mk<;>intro hb)|apply Two.mk)
 refine go_loop (fun idx:List Nat=>[(0,.it n1),(4,.imap bm clk born none (l.map .str) vs),(5,.it n0)]) (fun idx=>M (idx.map fun i=>l.getD i [])++[.obj (.mapIter (some bm) clk (idx.map fun i=>born.getD i 0).toArray clk)])
  (fun idx=>l.length - idx.length) (fun idx=>idx.Nodup∧∀ i∈idx,i<l.length) [] ⟨List.nodup_nil,by simp⟩ ?_ ?_
 ·exact Wk.sub (by simp[subEnv,look])
 ·rintro K idx ⟨hi1,hi2⟩ hK
  have hle:=met_le hi1 hi2
  generalize hs:idx.map (fun i=>l.getD i [])=s
  generalize hse:(idx.map fun i=>born.getD i 0).toArray=seen
  (refine run ?_;with_reducible repeat' first|exact trivial|(apply Fork.mk<;>intro hb)|apply Two.mk)
  refine go_next (tm:=4) rfl rfl (by simp only[X,List.getElem?_cons_zero];rfl) rfl (fun hall=>?_) (fun i b q y hb hsn hq hy2=>?_)
  ·(refine run ?_;with_reducible repeat' first|exact trivial|(apply Fork.mk<;>intro hb)|apply Two.mk)
   refine Fin.tellN (n0:=n0) hR (hlen _) hC' (hcl _) (.same _ rfl) ⟨s,?_,rfl⟩
   rw[← hs]
   exact met_perm hi1 hi2 hnd hlb (fun b hb=>by rw[hse];exact hall b hb)
  ·have hi:i<l.length:=by have:=(List.getElem?_eq_some_iff.1 hb).1;omega
   have hq':q= .str l[i]:=by rw[List.getElem?_map,List.getElem?_eq_getElem hi] at hq;cases hq;rfl
   subst hq'
   have hni:i∉idx:=fun hm=>by
    rw[← hse] at hsn
    have:(idx.map fun i=>born.getD i 0).toArray.contains b=true:=by
     simp only[List.contains_toArray,List.contains_iff_mem,List.mem_map]
     exact⟨i,hm,by rw[List.getD_eq_getElem?_getD,hb];rfl⟩
    rw[this] at hsn;cases hsn
   have hlt:idx.length<l.length:=by
    have:=met_le (n:=l.length) (idx:=idx++[i]) (List.nodup_append.2 ⟨hi1,by simp,by simp;exact fun a ha e=>hni (e ▸ ha)⟩) (by simp only[List.mem_append,List.mem_singleton];exact fun a ha=>ha.elim (hi2 a) (fun e=>e ▸ hi))
    simp at this;omega
   have hsl:s.length=idx.length:=by rw[← hs];simp
   simp only[X,List.set_cons_zero]
   (refine run ?_;with_reducible repeat' first|exact trivial|(apply Fork.mk<;>intro hb)|apply Two.mk)
   refine go_entry (tm:=4) rfl rfl (by simp only[X,List.getElem?_cons_zero];rfl) hb (by rw[List.getElem?_map,List.getElem?_eq_getElem hi];rfl) hy2 rfl ?_
   (refine run ?_;with_reducible repeat' first|exact trivial|(apply Fork.mk<;>intro hb)|apply Two.mk)
   refine callV (hy s l[i] _ (by omega)) ?_
   rintro r H' ⟨rfl,rfl⟩
   (refine run ?_;with_reducible repeat' first|exact trivial|(apply Fork.mk<;>intro hb)|apply Two.mk)
   have e1:(idx++[i]).map (fun i=>l.getD i [])=s++[l[i]]:=by
    rw[List.map_append,hs];simp[hi]
   have e2:((idx++[i]).map fun i=>born.getD i 0).toArray=seen.push b:=by
    rw[List.map_append,← hse];simp[hb]
   refine hK _ _ (idx++[i]) (by simp;omega) ⟨List.nodup_append.2 ⟨hi1,by simp,by simp;exact fun a ha e=>hni (e ▸ ha)⟩,by simp only[List.mem_append,List.mem_singleton];exact fun a ha=>ha.elim (hi2 a) (fun e=>e ▸ hi)⟩ ?_
   rw[e1,e2]
   exact Wk.sub (by simp[subEnv,look])
end Go.Proofs.YtggmfabkpnfodaaDoor
section
open Go
namespace Go.Proofs
open Go.Shelf
def Tryd.lays190_ren:Go.Shelf.Ren:=⟨fun|190=>39|125=>57|258=>56|128=>74|129=>75|302=>65|303=>66|304=>67|305=>68|306=>69|307=>70|308=>71|309=>72|310=>73|333=>80|329=>81|330=>82|334=>83|335=>84|336=>85|344=>87|n=>n,fun|31=>26|9=>9|3=>3|46=>122|0=>0|51=>139|53=>141|4=>4|183=>132|182=>131|131=>50|5=>5|218=>144|222=>148|228=>151|229=>152|n=>n,fun|n=>n⟩
theorem Tryd.lays190:Go.Proofs.Lays.n190 Tryd.prog Tryd.lays190_ren:={
 mixed:=by kernel_rfl
 f125:=Tryd.func57.trans (congrArg some (by kernel_rfl))
 f128:=Tryd.func74.trans (congrArg some (by kernel_rfl))
 f129:=Tryd.func75.trans (congrArg some (by kernel_rfl))
 f190:=Tryd.func39.trans (congrArg some (by kernel_rfl))
 f258:=Tryd.func56.trans (congrArg some (by kernel_rfl))
 f302:=Tryd.func65.trans (congrArg some (by kernel_rfl))
 f303:=Tryd.func66.trans (congrArg some (by kernel_rfl))
 f304:=Tryd.func67.trans (congrArg some (by kernel_rfl))
 f305:=Tryd.func68.trans (congrArg some (by kernel_rfl))
 f306:=Tryd.func69.trans (congrArg some (by kernel_rfl))
 f307:=Tryd.func70.trans (congrArg some (by kernel_rfl))
 f308:=Tryd.func71.trans (congrArg some (by kernel_rfl))
 f309:=Tryd.func72.trans (congrArg some (by kernel_rfl))
 f310:=Tryd.func73.trans (congrArg some (by kernel_rfl))
 f329:=Tryd.func81.trans (congrArg some (by kernel_rfl))
 f330:=Tryd.func82.trans (congrArg some (by kernel_rfl))
 f333:=Tryd.func80.trans (congrArg some (by kernel_rfl))
 f334:=Tryd.func83.trans (congrArg some (by kernel_rfl))
 f335:=Tryd.func84.trans (congrArg some (by kernel_rfl))
 f336:=Tryd.func85.trans (congrArg some (by kernel_rfl))
 f344:=Tryd.func87.trans (congrArg some (by kernel_rfl))
 t0:=Tryd.underlying0
 a0:=Tryd.isAgg0
 z0:=Tryd.sizeOf0
 v0:=Tryd.zeroValue0
 t3:=Tryd.underlying3
 a3:=Tryd.isAgg3
 z3:=Tryd.sizeOf3
 v3:=Tryd.zeroValue3
 t4:=Tryd.underlying4
 a4:=Tryd.isAgg4
 z4:=Tryd.sizeOf4
 v4:=Tryd.zeroValue4
 t5:=Tryd.underlying5
 a5:=Tryd.isAgg5
 z5:=Tryd.sizeOf5
 v5:=Tryd.zeroValue5
 t9:=Tryd.underlying9
 a9:=Tryd.isAgg9
 z9:=Tryd.sizeOf9
 v9:=Tryd.zeroValue9
 t31:=Tryd.underlying26
 a31:=Tryd.isAgg26
 z31:=Tryd.sizeOf26
 v31:=Tryd.zeroValue26
 t46:=Tryd.underlying122
 a46:=Tryd.isAgg122
 z46:=Tryd.sizeOf122
 v46:=Tryd.zeroValue122
 t51:=Tryd.underlying139
 a51:=Tryd.isAgg139
 z51:=Tryd.sizeOf139
 v51:=Tryd.zeroValue139
 t53:=Tryd.underlying141
 a53:=Tryd.isAgg141
 z53:=Tryd.sizeOf141
 v53:=Tryd.zeroValue141
 t131:=Tryd.underlying50
 a131:=Tryd.isAgg50
 z131:=Tryd.sizeOf50
 v131:=Tryd.zeroValue50
 t182:=Tryd.underlying131
 a182:=Tryd.isAgg131
 z182:=Tryd.sizeOf131
 v182:=Tryd.zeroValue131
 t183:=Tryd.underlying132
 a183:=Tryd.isAgg132
 z183:=Tryd.sizeOf132
 v183:=Tryd.zeroValue132
 t218:=Tryd.underlying144
 a218:=Tryd.isAgg144
 z218:=Tryd.sizeOf144
 v218:=Tryd.zeroValue144
 t222:=Tryd.underlying148
 a222:=Tryd.isAgg148
 z222:=Tryd.sizeOf148
 v222:=Tryd.zeroValue148
 t228:=Tryd.underlying151
 a228:=Tryd.isAgg151
 z228:=Tryd.sizeOf151
 v228:=Tryd.zeroValue151
 t229:=Tryd.underlying152
 a229:=Tryd.isAgg152
 z229:=Tryd.sizeOf152
 v229:=Tryd.zeroValue152}
open Go.Sort Go.RowKit in
theorem Tryd.slices_Sort_string (blk off cap:Nat) (ss:List (List UInt8)) (w:World) (hH:Holds encStr w blk off ss.toArray) (hblk:blk<w.heap.size) (hsz:ss.length<4611686018427387904):
 Calls Tryd.prog 39 #[.slice (some ⟨blk,off,none⟩) ss.length cap] w fun e w'=>
  e= .returned (.tuple #[])∧∃ n os,w'=grow (putRow encStr (Sort.ahead w n) blk off (ss.mergeSort fun x y=>decide (x≤y)).toArray) os:=Any.slices_Sort_string Tryd.lays190 blk off cap ss w hH hblk hsz
open Go.RowKit Go.Sort in
theorem Tryd.slices_Sort_string_none (p:Option Addr) (cap:Nat) (w:World):
 Calls Tryd.prog 39 #[.slice p 0 cap] w fun e w'=>e= .returned (.tuple #[])∧w'=w:=Any.slices_Sort_string_none Tryd.lays190 p cap w
end Go.Proofs
end
namespace Go.Proofs.YtggmfabkpnfodaaDoor
open Go
theorem closed_swap {H L L':List Blk} (h:closed (H++L)) (hl:L'.length=L.length) (hu:∀ b∈L',b.under (H.length+L.length)=true):closed (H++L'):=by
 intro B hB
 rw[List.length_append,hl]
 rcases List.mem_append.1 hB with h1|h1
 ·have:=h B (List.mem_append_left _ h1)
  rwa[List.length_append] at this
 ·exact hu B h1
theorem appendSeq_ok (G:Gl) (hG:GClosed G) (pb bm clk:Nat) (born:List Nat) (l:List Str) (vs:List SV) (hlb:born.length=l.length) (hlv:vs.length=l.length) (hnd:born.Nodup) (hll:l.length<1099511627776) (H:List Blk)
 (hpb:H[pb]? =some (.cells 0 1 [.imap bm clk born none (l.map .str) vs])) (hvs:∀ n,SV.underL n vs=true):
 ACall Tryd.prog G 55 [.nil,.fn (.func 40) [] [.ptr pb 0 0 0]] H (fun r H'=>∃ s:List Str,s.Perm l∧H'=H++[.cells 0 1 (s.map .str)]∧r= .sl H.length 0 0 s.length):=by
 have hpl:pb<H.length:=(List.getElem?_eq_some_iff.1 hpb).1
 refine ACall.of_go TB [] tabOK _ Tryd.func55 rfl (by decide) Tryd.ntmps55 (by simp) rfl (by simp only[initEnv,Nat.reduceAdd];rfl) fun C R' hR hC hcl hB=>?_;have X:=noX;have hC':=congrArg List.length hC
 refine go_ownNil 0 1 rfl ?_
 (refine run ?_;with_reducible repeat' first|exact trivial|(apply Fork.mk<;>intro hb)|apply Two.mk)
 refine go_rangeFunc tabOK (σ:=List Str) (ξ:=Str) (fun s=>H++[.cells s.length 1 (s.map .str),.cells 0 1 [.sl H.length s.length 0 s.length]]) (H.length+2) (fun s=>by simp) []
  [(2,.ptr (H.length+1) 0 0 0),(6,.fn (.func 40) [] [.ptr pb 0 0 0])] (fun x=>[.str x]) (fun s x=>s.length<l.length) (fun s x=>s++[x]) (fun s=>s.Perm l)
  (fun x=>[(7,.str x),(2,.ptr (H.length+1) 0 0 0),(6,.fn (.func 40) [] [.ptr pb 0 0 0])]) rfl rfl (fun x=>rfl) (fun x=>rfl) ?_ ?_ ?_ ?_
 ·exact Wk.sub (by simp[subEnv,look])
 ·intro G' LO hGl hLO hy
  have:=keys1_ok G' (by unfold GClosed;rw[hGl];exact hG) (H.length+2) pb (H.length+3) bm clk born l vs hlb hlv hnd (fun s=>(H++[.cells s.length 1 (s.map .str),.cells 0 1 [.sl H.length s.length 0 s.length]])++[LO]) (fun s=>by simp) (by omega) hll
   (fun s L=>by simp only[List.append_assoc];rw[List.getElem?_append_left hpl];exact hpb) hvs (fun hc s=>by
    simp only[List.append_assoc] at hc ⊢
    refine closed_swap hc (by simp) (fun b hb=>?_)
    simp only[List.cons_append,List.nil_append,List.mem_cons,List.not_mem_nil,or_false] at hb
    rcases hb with rfl|rfl|rfl
    ·exact strs_under _ _
    ·simp[Blk.under,SV.underL,SV.under]
    ·simpa using hLO) (fun s x X hs=>by
     have:=hy s x X hs
     simpa only[List.append_assoc,List.cons_append,List.nil_append] using this)
  exact this.mono fun r H' ⟨s,h1,h2⟩=>⟨s,h1,h2⟩
 ·intro G' C' ρ' s x Y LO LB K1 K hGl hB' hCH hcl' hLO hLB hs hK1 hK
  have X:=noX
  have hG':GClosed G':=by unfold GClosed;rw[hGl];exact hG
  simp only[List.append_assoc,List.cons_append,List.nil_append] at hcl' hCH ⊢
  (refine run ?_;with_reducible repeat' first|exact trivial|(apply Fork.mk<;>intro hb)|apply Two.mk)
  refine hK1 _ _ (by simp[List.getElem?_append_right]) ?_
  simp only[set_app,List.set_cons_succ,List.set_cons_zero]
  (refine run ?_;with_reducible repeat' first|exact trivial|(apply Fork.mk<;>intro hb)|apply Two.mk)
  refine hK _ _ ?_
  simp only[List.append_assoc,List.cons_append,List.nil_append,List.length_append,List.length_cons,List.length_nil,List.map_append,List.map_cons,List.map_nil,Nat.zero_add]
  exact Wk.sub trivial
 ·intro s LO hs hLO
  simp only[List.append_assoc,List.cons_append,List.nil_append]
  (refine run ?_;with_reducible repeat' first|exact trivial|(apply Fork.mk<;>intro hb)|apply Two.mk)
  refine finK [(H.length,0)] (.sl H.length 0 0 s.length) [.cells 0 1 (s.map .str)] hR hC' hcl ⟨s,hs,rfl,rfl⟩
theorem collect_ok (G:Gl) (hG:GClosed G) (pb bm clk:Nat) (born:List Nat) (l:List Str) (vs:List SV) (hlb:born.length=l.length) (hlv:vs.length=l.length) (hnd:born.Nodup) (hll:l.length<1099511627776) (H:List Blk)
 (hpb:H[pb]? =some (.cells 0 1 [.imap bm clk born none (l.map .str) vs])) (hvs:∀ n,SV.underL n vs=true):
 ACall Tryd.prog G 38 [.fn (.func 40) [] [.ptr pb 0 0 0]] H (fun r H'=>∃ s:List Str,s.Perm l∧H'=H++[.cells 0 1 (s.map .str)]∧r= .sl H.length 0 0 s.length):=by
 refine ACall.of_go TB [] tabOK _ Tryd.func38 rfl (by decide) Tryd.ntmps38 (by simp) rfl (by simp only[initEnv,Nat.reduceAdd];rfl) fun C R' hR hC hcl hB=>?_;have X:=noX;have hC':=congrArg List.length hC
 (refine run ?_;with_reducible repeat' first|exact trivial|(apply Fork.mk<;>intro hb)|apply Two.mk)
 refine callS (appendSeq_ok G hG pb bm clk born l vs hlb hlv hnd hll H hpb hvs) ?_
 rintro r H' ⟨s,hs,rfl,rfl⟩
 (refine run ?_;with_reducible repeat' first|exact trivial|(apply Fork.mk<;>intro hb)|apply Two.mk)
 exact finK [(H.length,0)] (.sl H.length 0 0 s.length) [.cells 0 1 (s.map .str)] hR hC' hcl ⟨s,hs,rfl,rfl⟩
def sortS (l:List Str):List Str:=l.mergeSort fun x y=>decide (x≤y)
theorem sortS_perm (l:List Str):(sortS l).Perm l:=List.mergeSort_perm l _
theorem sortS_len (l:List Str):(sortS l).length=l.length:=(sortS_perm l).length_eq
theorem sortS_eq {s l:List Str} (h:s.Perm l):sortS s=sortS l:=Go.mergeSort_of_perm h
theorem sort_strs (G:Gl) (id g:Nat) (l:List Str) (H:List Blk) (hH:H[id]? =some (.cells g 1 (l.map .str))) (hl:l.length<4611686018427387904):
 ACall Tryd.prog G 39 [.sl id g 0 l.length] H (fun r H'=>H'=H.set id (.cells g 1 ((sortS l).map .str))∧r= .tuple []):=
 ACall.of_sort encStr .str (fun s=>s.length≤maxLen) (fun c x v=>rep_str_iff c x v) (fun _=>rfl) (fun x y=>decide (x≤y)) ⟨_,Tryd.func39,by decide,rfl⟩
  (fun blk off cap zs w h1 h2 h3=>Tryd.slices_Sort_string blk off cap zs w h1 h2 h3) (fun p cap w=>Tryd.slices_Sort_string_none p cap w) id g l H hH hl
theorem sorted_ok (G:Gl) (hG:GClosed G) (pb bm clk:Nat) (born:List Nat) (l:List Str) (vs:List SV) (hlb:born.length=l.length) (hlv:vs.length=l.length) (hnd:born.Nodup) (hll:l.length<1099511627776) (H:List Blk)
 (hpb:H[pb]? =some (.cells 0 1 [.imap bm clk born none (l.map .str) vs])) (hvs:∀ n,SV.underL n vs=true):
 ACall Tryd.prog G 19 [.fn (.func 40) [] [.ptr pb 0 0 0]] H (fun r H'=>H'=H++[.cells 0 1 ((sortS l).map .str)]∧r= .sl H.length 0 0 l.length):=by
 refine ACall.of_go TB [] tabOK _ Tryd.func19 rfl (by decide) Tryd.ntmps19 (by simp) rfl (by simp only[initEnv,Nat.reduceAdd];rfl) fun C R' hR hC hcl hB=>?_;have X:=noX;have hC':=congrArg List.length hC
 (refine run ?_;with_reducible repeat' first|exact trivial|(apply Fork.mk<;>intro hb)|apply Two.mk)
 refine callS (collect_ok G hG pb bm clk born l vs hlb hlv hnd hll H hpb hvs) ?_
 rintro r H' ⟨s,hs,rfl,rfl⟩
 (refine run ?_;with_reducible repeat' first|exact trivial|(apply Fork.mk<;>intro hb)|apply Two.mk)
 have hsl:=hs.length_eq
 refine callS (sort_strs G H.length 0 s _ (by simp) (by omega)) ?_
 rintro r H' ⟨rfl,rfl⟩
 rw[sortS_eq hs,hsl]
 simp only[set_app0,List.set_cons_zero]
 (refine run ?_;with_reducible repeat' first|exact trivial|(apply Fork.mk<;>intro hb)|apply Two.mk)
 exact finK [(H.length,0)] (.sl H.length 0 0 l.length) [.cells 0 1 ((sortS l).map .str)] hR hC' hcl ⟨rfl,rfl⟩
theorem keys_ok (G:Gl) (hG:GClosed G) (bm clk:Nat) (born:List Nat) (l:List Str) (vs:List SV) (hvs:∀ n,SV.underL n vs=true) (H:List Blk):
 ACall Tryd.prog G 20 [.imap bm clk born none (l.map .str) vs] H (fun r H'=>H'=H++[.cells 0 1 [.imap bm clk born none (l.map .str) vs]]∧r= .fn (.func 40) [] [.ptr H.length 0 0 0]):=by
 refine ACall.of_go TB [] tabOK _ Tryd.func20 rfl (by decide) Tryd.ntmps20 (by simp) rfl (by simp only[initEnv,Nat.reduceAdd];rfl) fun C R' hR hC hcl hB=>?_;have X:=noX;have hC':=congrArg List.length hC
 have hks:∀ n,SV.underL n (l.map SV.str)=true:=fun n=>strs_under n l
 (refine run ?_;with_reducible repeat' first|exact trivial|(apply Fork.mk<;>intro hb)|apply Two.mk)
 refine finK [(H.length,0)] (.fn (.func 40) [] [.ptr H.length 0 0 0]) [.cells 0 1 [.imap bm clk born none (l.map .str) vs]] hR hC' hcl ⟨rfl,rfl⟩ (.c (by exact hbS) (Nat.le_refl _) (Nat.zero_le _) (FrzL.same ?_) .nil) (by simp) (.fn _ _ _ _ _ .nil (.cons _ _ _ _ (Frz.kp 0 rfl (by exact hbS) (Nat.le_refl _) rfl rfl) .nil))
 simp only[List.drop_zero,SV.underL,SV.under,hks,hvs,Bool.and_self]
theorem scope_sum (e:Ex):((scopeParts e).map fun p=>p.1.wt).sum<e.wt:=by
 obtain⟨kd,nm,nn,op,names,subs,binds,alts⟩:=e
 have h1:∀ l:List Ex,(l.map fun x=>x.wt).sum=exsWt l:=fun l=>by
  induction l with
  |nil=>rfl
  |cons x r ih=>simp only[List.map_cons,List.sum_cons,exsWt,ih]
 have h2:∀ l:List Bd,(l.map fun b=>b.e.wt).sum≤bdsWt l:=fun l=>by
  induction l with
  |nil=>exact Nat.le_refl _
  |cons x r ih=>simp only[List.map_cons,List.sum_cons,bdsWt];have:=x.wt_gt;omega
 have h3:∀ l:List Al,(l.map fun b=>b.body.wt).sum≤alsWt l:=fun l=>by
  induction l with
  |nil=>exact Nat.le_refl _
  |cons x r ih=>simp only[List.map_cons,List.sum_cons,alsWt];have:=x.wt_gt;omega
 have:=h1 subs;have:=h2 binds;have:=h3 alts
 simp only[scopeParts,List.map_append,List.map_map,Function.comp_def,List.sum_append,Ex.wt]
 omega
theorem putO_len (l:List Str) (s:Str):(putO l s).length≤l.length+1:=by
 unfold putO
 split<;>simp
theorem unb_len:∀ (m:Nat) (e:Ex) (st:BO),(unbF m e st).2.length≤st.2.length+e.wt
 |0,e,st=>by simp[unbF]
 |m+1,e,st=>by
  rw[unbF]
  have hp:=e.wt_pos
  split
  ·split
   ·have:=putO_len st.2 e.name;simp only;omega
   ·omega
  ·have hs:=scope_sum e
   generalize scopeParts e=l at hs
   have key:∀ (l:List (Ex×List Str)) (st:BO),(l.foldl (cstep (unbF m)) st).2.length≤st.2.length+(l.map fun p=>p.1.wt).sum:=fun l=>by
    induction l with
    |nil=>intro st;exact Nat.le_refl _
    |cons p l ih=>
     intro st
     rw[List.foldl_cons]
     have h1:=ih (cstep (unbF m) st p)
     have h2:=unb_len m p.1 (incB st.1 p.2,st.2)
     simp only[List.map_cons,List.sum_cons]
     have e:(cstep (unbF m) st p).2.length=(unbF m p.1 (incB st.1 p.2,st.2)).2.length:=rfl
     rw[e] at h1
     simp only at h2
     omega
   have:=key l st
   omega
def freeS (e:Ex):List Str:=sortS (unbF e.wt e ([],[])).2
theorem free_ok (G:Gl) (hG:GClosed G) (e:Ex) (H:List Blk) (hw:e.wt<549755813888):ACall Tryd.prog G 8 [e.sv] H (fun r H'=>H'=H++[.cells 0 1 ((freeS e).map .str)]∧r= .sl H.length 0 0 (freeS e).length):=by
 refine ACall.of_go TB [] tabOK _ Tryd.func8 rfl (by decide) Tryd.ntmps8 (by simp) rfl (by simp only[initEnv,Nat.reduceAdd];rfl) fun C R' hR hC hcl hB=>?_;have X:=noX;have hC':=congrArg List.length hC
 have hcall:=unbound_ok G hG e.wt e (Nat.le_refl _) hw (H++[.cells 0 8 [e.sv],.map none [],.map none []]) (H.length+2) (H.length+1) ([],[]) (by simp[esB]) (by simp[esO]) (by omega) (fun s=>by simp only[cntB];omega)
 have hlen:=unb_len e.wt e ([],[])
 have hfl:(freeS e).length=(unbF e.wt e ([],[])).2.length:=sortS_len _
 generalize hst:unbF e.wt e ([],[])=st at hcall hlen hfl
 (refine run ?_;with_reducible repeat' first|exact trivial|(apply Fork.mk<;>intro hb)|apply Two.mk)
 refine callS hcall ?_
 rintro r H' rfl
 simp only[UH,set_app,List.set_cons_succ,List.set_cons_zero]
 refine go_nil ?_
 refine go_pin (t:=3) (io:=H.length+1) (kd:=none) (es:=esO st.2) (by exact hbS) (by omega) hB rfl (fun bm clk born hb hnd=>?_)
 have e1:(esO st.2).map Prod.fst=st.2.map .str:=by simp[esO]
 have e2:(esO st.2).map Prod.snd=st.2.map fun _=> .bool true:=by simp[esO]
 have e3:(esO st.2).length=st.2.length:=by simp[esO]
 rw[e1,e2]
 rw[e3] at hb
 simp only[set_app,List.set_cons_succ,List.set_cons_zero]
 (refine run ?_;with_reducible repeat' first|exact trivial|(apply Fork.mk<;>intro hb)|apply Two.mk)
 refine callS (keys_ok G hG bm clk born st.2 _ (fun n=>SV.underL_map fun _ _=>rfl) _) ?_
 rintro r H' ⟨rfl,rfl⟩
 simp only[List.append_assoc,List.cons_append,List.nil_append,List.length_append,List.length_cons,List.length_nil,List.length_set,X,Nat.reduceAdd]
 (refine run ?_;with_reducible repeat' first|exact trivial|(apply Fork.mk<;>intro hb)|apply Two.mk)
 refine callS (sorted_ok G hG (H.length+3) bm clk born st.2 (st.2.map fun _=> .bool true) hb (by simp) hnd (by simp only at hlen;simp at hlen;omega) _ (by rw[get_app];rfl) (fun n=>SV.underL_map fun _ _=>rfl)) ?_
 rintro r H' ⟨rfl,rfl⟩
 simp only[List.append_assoc,List.cons_append,List.nil_append,List.length_append,List.length_cons,List.length_nil,List.length_set,X,Nat.reduceAdd]
 (refine run ?_;with_reducible repeat' first|exact trivial|(apply Fork.mk<;>intro hb)|apply Two.mk)
 have e4:sortS st.2=freeS e:=by rw[freeS,hst]
 rw[e4,← hfl]
 exact finK [(H.length+4,0)] (.sl H.length 0 0 (freeS e).length) [.cells 0 1 ((freeS e).map .str)] hR hC' hcl ⟨rfl,rfl⟩
theorem clone_exs (G:Gl) (hG:GClosed G) (l:List Ex) (H:List Blk) (hl:l.length<4294967296):ACall Tryd.prog G 62 [.list 8 (exCells l)] H (fun r H'=>H'=H++[.cells 0 8 (exCells l)]∧r= .sl H.length 0 0 l.length):=by
 refine ACall.of_go TB [2,5] tabOK _ Tryd.func62 rfl (by decide) Tryd.ntmps62 (by simp) rfl (by simp only[initEnv,Nat.reduceAdd];rfl) fun C R' hR hC hcl hB=>?_;have X:=noX;have hC':=congrArg List.length hC
 (refine runO ?_;with_reducible repeat' first|exact trivial|(apply Fork.mk<;>intro hb)|apply Two.mk)
 ·obtain rfl:l=[]:=List.length_eq_zero_iff.1 hb
  exact finK [(H.length+1,0)] (.sl H.length 0 0 0) [.cells 0 8 []] hR hC' hcl ⟨rfl,rfl⟩
 ·exact finK [(H.length+1,0)] (.sl H.length 0 0 l.length) [.cells 0 8 (exCells l)] hR hC' hcl ⟨rfl,rfl⟩
theorem clone_bds (G:Gl) (hG:GClosed G) (l:List Bd) (H:List Blk) (hl:l.length<4294967296):ACall Tryd.prog G 63 [.list 9 (bdCells l)] H (fun r H'=>H'=H++[.cells 0 9 (bdCells l)]∧r= .sl H.length 0 0 l.length):=by
 refine ACall.of_go TB [2,5] tabOK _ Tryd.func63 rfl (by decide) Tryd.ntmps63 (by simp) rfl (by simp only[initEnv,Nat.reduceAdd];rfl) fun C R' hR hC hcl hB=>?_;have X:=noX;have hC':=congrArg List.length hC
 (refine runO ?_;with_reducible repeat' first|exact trivial|(apply Fork.mk<;>intro hb)|apply Two.mk)
 ·obtain rfl:l=[]:=List.length_eq_zero_iff.1 hb
  exact finK [(H.length+1,0)] (.sl H.length 0 0 0) [.cells 0 9 []] hR hC' hcl ⟨rfl,rfl⟩
 ·exact finK [(H.length+1,0)] (.sl H.length 0 0 l.length) [.cells 0 9 (bdCells l)] hR hC' hcl ⟨rfl,rfl⟩
theorem clone_als (G:Gl) (hG:GClosed G) (l:List Al) (H:List Blk) (hl:l.length<4294967296):ACall Tryd.prog G 64 [.list 12 (alCells l)] H (fun r H'=>H'=H++[.cells 0 12 (alCells l)]∧r= .sl H.length 0 0 l.length):=by
 refine ACall.of_go TB [2,5] tabOK _ Tryd.func64 rfl (by decide) Tryd.ntmps64 (by simp) rfl (by simp only[initEnv,Nat.reduceAdd];rfl) fun C R' hR hC hcl hB=>?_;have X:=noX;have hC':=congrArg List.length hC
 (refine runO ?_;with_reducible repeat' first|exact trivial|(apply Fork.mk<;>intro hb)|apply Two.mk)
 ·obtain rfl:l=[]:=List.length_eq_zero_iff.1 hb
  exact finK [(H.length+1,0)] (.sl H.length 0 0 0) [.cells 0 12 []] hR hC' hcl ⟨rfl,rfl⟩
 ·exact finK [(H.length+1,0)] (.sl H.length 0 0 l.length) [.cells 0 12 (alCells l)] hR hC' hcl ⟨rfl,rfl⟩
section
def altOwn (kd:Int) (nm:Str) (names:List Str):List Str:=names++if kd=6 then [nm] else []
def repF (s:Str) (r:Ex):Nat→Ex→Ex
 |0,e=>e
 |m+1,.mk kd nm nn op names subs binds alts=>
  if kd=1 then (if nm=s then r else .mk kd nm nn op names subs binds alts) else
  .mk kd nm nn op names (subs.map fun x=>if s∈ownOf kd names binds then x else repF s r m x)
   (binds.map fun b=> .mk b.name (if s∈ownOf kd names binds then b.e else repF s r m b.e))
   (alts.map fun a=> .mk a.kind a.name a.n a.names (if s∈altOwn kd nm a.names then a.body else repF s r m a.body))
def mix {α:Type} (f:α→α) (l:List α) (i:Nat):List α:=(l.take i).map f++l.drop i
theorem mix_len {α:Type} (f:α→α) (l:List α) (i:Nat) (h:i≤l.length):(mix f l i).length=l.length:=by simp[mix];omega
theorem mix_zero {α:Type} (f:α→α) (l:List α):mix f l 0=l:=by simp[mix]
theorem mix_all {α:Type} (f:α→α) (l:List α):mix f l l.length=l.map f:=by simp[mix]
theorem mix_get {α:Type} (f:α→α) (l:List α) (i:Nat) (h:i<l.length):(mix f l i)[i]? =some l[i]:=by
 rw[mix,List.getElem?_append_right (by rw[List.length_map,List.length_take];omega),List.length_map,List.length_take,Nat.min_eq_left (by omega),Nat.sub_self,List.getElem?_drop,Nat.add_zero,List.getElem?_eq_getElem h]
theorem mix_set {α:Type} (f:α→α) (l:List α) (i:Nat) (h:i<l.length):(mix f l i).set i (f l[i])=mix f l (i+1):=by
 rw[mix,mix,List.set_append,if_neg (by rw[List.length_map,List.length_take];omega),List.length_map,List.length_take,Nat.min_eq_left (by omega),Nat.sub_self,List.take_succ_eq_append_getElem h,List.map_append,List.append_assoc,List.drop_eq_getElem_cons h]
 rfl
theorem exCells_mix (f:Ex→Ex) (l:List Ex) (i:Nat) (h:i<l.length):(exCells (mix f l i))[i]? =some (.agg l[i].cells):=by rw[exCells_map,List.getElem?_map,mix_get f l i h];rfl
theorem bdCells_mix (f:Bd→Bd) (l:List Bd) (i:Nat) (h:i<l.length):(bdCells (mix f l i))[i]? =some (.agg (.str l[i].name::l[i].e.cells)):=by rw[bdCells_map,List.getElem?_map,mix_get f l i h,Option.map_some,Bd.sv,Bd.cells_eq]
theorem alCells_mix (f:Al→Al) (l:List Al) (i:Nat) (h:i<l.length):(alCells (mix f l i))[i]? =some (.agg (.int .i64 l[i].kind:: .str l[i].name:: .int .i64 l[i].n:: .list 1 (l[i].names.map .str)::l[i].body.cells)):=by
 rw[alCells_map,List.getElem?_map,mix_get f l i h,Option.map_some,Al.sv,Al.cells_eq]
theorem exCells_mixset (f:Ex→Ex) (l:List Ex) (i:Nat) (h:i<l.length):(exCells (mix f l i)).set i (.agg (f l[i]).cells)=exCells (mix f l (i+1)):=by
 rw[exCells_map,exCells_map,← mix_set f l i h,List.map_set];rfl
theorem bdCells_mixset (f:Bd→Bd) (l:List Bd) (i:Nat) (h:i<l.length):(bdCells (mix f l i)).set i (.agg (.str (f l[i]).name::(f l[i]).e.cells))=bdCells (mix f l (i+1)):=by
 rw[bdCells_map,bdCells_map,← mix_set f l i h,List.map_set,Bd.sv,Bd.cells_eq]
theorem alCells_mixset (f:Al→Al) (l:List Al) (i:Nat) (h:i<l.length):
 (alCells (mix f l i)).set i (.agg (.int .i64 (f l[i]).kind:: .str (f l[i]).name:: .int .i64 (f l[i]).n:: .list 1 ((f l[i]).names.map .str)::(f l[i]).body.cells))=alCells (mix f l (i+1)):=by
 rw[alCells_map,alCells_map,← mix_set f l i h,List.map_set,Al.sv,Al.cells_eq]
theorem exCells_mixT (f:Ex→Ex) (l:List Ex) (i:Nat) (h:i≤l.length):(exCells (mix f l i)).take l.length=exCells (mix f l i):=List.take_of_length_le (by simp[exCells_map,mix_len f l i h])
theorem bdCells_mixT (f:Bd→Bd) (l:List Bd) (i:Nat) (h:i≤l.length):(bdCells (mix f l i)).take l.length=bdCells (mix f l i):=List.take_of_length_le (by simp[bdCells_map,mix_len f l i h])
theorem alCells_mixT (f:Al→Al) (l:List Al) (i:Nat) (h:i≤l.length):(alCells (mix f l i)).take l.length=alCells (mix f l i):=List.take_of_length_le (by simp[alCells_map,mix_len f l i h])
section
variable {P:Program} {G:Gl} {T:Tab} {own:List Nat} {nt B:Nat} {ρ:Option Nat} {C:Cx} {rs:List ResultVar} {R:SV→List Blk→Prop} {env env2:Env} {H X KB:List Blk} {k:List It}
theorem frzG {p:Prop} (h:p:=by repeat' (first|exact FrzL.nil|(refine FrzL.cons _ _ _ _ ?_ ?_)|(apply Frz.same;exact undS)|(apply Frz.ks 3 rfl;(· exact hbS);(· omega);(· omega);(· omega);(· omega))|(apply Frz.ks 4 rfl;(· exact hbS);(· omega);(· omega);(· omega);(· omega))|(apply Frz.ks 5 rfl;(· exact hbS);(· omega);(· omega);(· omega);(· omega))|(apply Frz.ks 6 rfl;(· exact hbS);(· omega);(· omega);(· omega);(· omega))|(apply Frz.ks 7 rfl;(· exact hbS);(· omega);(· omega);(· omega);(· omega))|fail)):p:=h
theorem wkF (ks:Keep) {n0:Nat} (hG:GClosed G) (hB:Based G C.H.length) (hC:C.H.length=n0) (hcl:closed H) (hn:H.length=n0:=by first|rfl|(simp;done)|exact hlen _)
 (hk:KeepB (H++X) n0 ks ks KB:=by
  repeat' (first|exact KeepB.nil|(apply KeepB.c;(· exact hbS);(· omega);(· first|omega|(simp<;>omega));(· first|(apply FrzL.same;exact undS)|(refine FrzL.cons _ _ _ _ ?_ FrzL.nil;apply Frz.agg;exact frzG)|exact frzLS))|exact frzS))
 (hd:(ks.map (·.1)).Nodup:=by first|rfl|decide|simp)
 (he:subEnvF (H++X) n0 ks env2 env:=by
  repeat' (first|exact True.intro|(refine And.intro ⟨_,rfl,?_⟩ ?_)|(apply Frz.fn;(· exact frzLS);(· exact frzLS))|(apply Frz.kp 5 rfl;(· exact hbS);(· omega);(· omega);(· omega))|(apply Frz.kp 6 rfl;(· exact hbS);(· omega);(· omega);(· omega))|(apply Frz.kp 7 rfl;(· exact hbS);(· omega);(· omega);(· omega))|exact frzS)):Wk G nt C ⟨env,H++X⟩ ⟨env2,H++KB⟩:=Wk.keepN ks hG hB hn hC hcl hk hd he
end
theorem repl1_ok (G:Gl) (hG:GClosed G) (s:Str) (r:Ex) (m:Nat) (hrec:∀ (e:Ex) (H:List Blk),e.wt≤m→ACall Tryd.prog G 48 [e.sv,.str s,r.sv] H (fun v H'=>H'=H∧v=(repF s r m e).sv))
 (x:Ex) (hx:x.wt≤m) (names:List Str) (hn:names.length<4611686018427387904) (H:List Blk) (nb rb:Nat) (h1:H[nb]? =some (.cells 0 1 [.str s])) (h2:H[rb]? =some (.cells 0 8 [.agg r.cells])):
 ACall Tryd.prog G 61 [x.sv,.list 1 (names.map .str),.ptr nb 0 0 0,.ptr rb 0 0 0] H (fun v H'=>H'=H∧v=(if s∈names then x else repF s r m x).sv):=by
 have hl1:nb<H.length:=(List.getElem?_eq_some_iff.1 h1).1
 have hl2:rb<H.length:=(List.getElem?_eq_some_iff.1 h2).1
 refine ACall.of_go TB [] tabOK _ Tryd.func61 rfl (by decide) Tryd.ntmps61 (by simp) rfl (by simp only[initEnv,Nat.reduceAdd];rfl) fun C R' hR hC hcl hB=>?_;have X:=noX;have hC':=congrArg List.length hC
 have X:=And.intro h1 h2
 (refine run ?_;with_reducible repeat' first|exact trivial|(apply Fork.mk<;>intro hb)|apply Two.mk)
 refine callS (contains_list G names s _ hn) ?_
 rintro v H' ⟨rfl,rfl⟩
 (refine run ?_;with_reducible repeat' first|exact trivial|(apply Fork.mk<;>intro hb)|apply Two.mk)
 ·rw[if_pos hb] at hR
  exact Fin.tellN (n0:=H.length) hR rfl hC' hcl (.same _ (Ex.sv_under _ _)) ⟨rfl,rfl⟩
 ·rw[if_neg hb] at hR
  refine callS (hrec x _ hx) ?_
  rintro v H' ⟨rfl,rfl⟩
  (refine run ?_;with_reducible repeat' first|exact trivial|(apply Fork.mk<;>intro hb)|apply Two.mk)
  exact Fin.tellN (n0:=H.length) hR rfl hC' hcl (.same _ (Ex.sv_under _ _)) ⟨rfl,rfl⟩
end
theorem Ex.cells_drop (e:Ex):List.drop 8 e.cells=[]:=List.drop_eq_nil_of_le (by rw[e.cells_len];exact Nat.le_refl _)
theorem replace_ok (G:Gl) (hG:GClosed G) (s:Str) (r:Ex):∀ (m:Nat) (e:Ex) (H:List Blk),e.wt≤m→m<4294967296→ACall Tryd.prog G 48 [e.sv,.str s,r.sv] H (fun v H'=>H'=H∧v=(repF s r m e).sv)
 |0,e,H,h,_=>absurd e.wt_pos (by omega)
 |m+1,e,H,hm,hm2=>by
  obtain⟨kd,nm,nn,op,names,subs,binds,alts⟩:=e
  have hlen:=Ex.wt_lens kd nm nn op names subs binds alts
  have hP:(Ex.mk kd nm nn op names subs binds alts).parts=subs++(binds.map Bd.e++alts.map Al.body):=Ex.parts_mk ..
  have hwp:∀ p∈(Ex.mk kd nm nn op names subs binds alts).parts,p.wt≤m:=fun p hp=>by have:=Ex.wt_parts hp;omega
  rw[hP] at hwp
  have hrec:=fun e H h=>replace_ok G hG s r m e H h (by omega)
  have hin:∀ (x:Ex) (nms:List Str) (H2:List Blk),x.wt≤m→nms.length<4611686018427387904→H2[H.length+1]? =some (.cells 0 1 [.str s])→H2[H.length+2]? =some (.cells 0 8 [.agg r.cells])→
   ACallV Tryd.prog G (.fn (.func 61) [] [.ptr (H.length+1) 0 0 0,.ptr (H.length+2) 0 0 0]) [x.sv,.list 1 (nms.map .str)] H2 (fun v H'=>H'=H2∧v=(if s∈nms then x else repF s r m x).sv):=fun x nms H2 h1 h2 h3 h4=>
   ACallV.of (first:=[]) (args:=[x.sv,.list 1 (nms.map .str)]) (cap:=[.ptr (H.length+1) 0 0 0,.ptr (H.length+2) 0 0 0]) (repl1_ok G hG s r m hrec x h1 nms h2 H2 _ _ h3 h4)
  refine ACall.of_go TB [8,14] tabOK _ Tryd.func48 rfl (by decide) Tryd.ntmps48 (by simp) rfl (by simp only[initEnv,Nat.reduceAdd];rfl) fun C R' hR hC hcl hB=>?_;have X:=noX;have hC':=congrArg List.length hC
  rw[repF] at hR
  by_cases hk1:kd=1
  ·subst hk1
   rw[if_pos rfl] at hR
   (refine runO ?_;with_reducible repeat' first|exact trivial|(apply Fork.mk<;>intro hb)|apply Two.mk)
   ·rw[if_pos hb] at hR
    exact Fin.tellN (n0:=H.length) hR rfl hC' hcl (.same _ (Ex.sv_under _ r)) ⟨rfl,rfl⟩
   ·rw[if_neg hb] at hR
    exact Fin.tellN (n0:=H.length) hR rfl hC' hcl (.same _ (Ex.sv_under _ (.mk 1 nm nn op names subs binds alts))) ⟨rfl,rfl⟩
  rw[if_neg hk1] at hR
  clear X
  have X:=decide_eq_false hk1
  (refine runC ?_;with_reducible repeat' first|exact trivial|(apply Fork.mk<;>intro hb)|apply Two.mk)
  refine go_condF rfl ?_
  (refine runC ?_;with_reducible repeat' first|exact trivial|(apply Fork.mk<;>intro hb)|apply Two.mk)
  refine go_cut (fun _:Unit=>[(3,.ptr H.length 0 0 0),(4,.ptr (H.length+1) 0 0 0),(5,.ptr (H.length+2) 0 0 0),(6,.ptr (H.length+3) 0 0 0),(7,.fn (.func 61) [] [.ptr (H.length+1) 0 0 0,.ptr (H.length+2) 0 0 0]),(8,.sl (H.length+4) 0 0 (if kd=3 then names else []).length)]) (fun _=>H++[.cells 0 8 [.agg [.int .i64 kd,.str nm,.int .i64 nn,.int .i64 op,.list 1 (names.map .str),.list 8 (exCells subs),.list 9 (bdCells binds),.list 12 (alCells alts)]],.cells 0 1 [.str s],.cells 0 8 [.agg r.cells],.cells 0 8 [.agg [.int .i64 0,.str [],.int .i64 0,.int .i64 0,.list 1 [],.list 8 [],.list 9 [],.list 12 []]],.cells 0 1 ((if kd=3 then names else []).map .str)]) (fun _=>True) (fun K hK=>?_) (fun _ _=>?_)
  ·(refine run ?_;with_reducible repeat' first|exact trivial|(apply Fork.mk<;>intro hb)|apply Two.mk)
   ·refine callS (clone_strs G hG names _ (by omega)) ?_
    rintro v H' ⟨rfl,rfl⟩
    simp only[List.append_assoc,List.cons_append,List.nil_append,List.length_append,List.length_cons,List.length_nil,List.length_set,X,Nat.reduceAdd]
    (refine run ?_;with_reducible repeat' first|exact trivial|(apply Fork.mk<;>intro hb)|apply Two.mk)
    refine hK _ _ () trivial ?_
    simp only[if_pos hb]
    exact wkF (n0:=H.length) [(H.length,0),(H.length+1,0),(H.length+2,0),(H.length+3,0),(H.length+5,0)] hG hB hC' hcl
   ·refine hK _ _ () trivial ?_
    simp only[if_neg hb,List.length_nil,List.map_nil]
    exact wkF (n0:=H.length) [(H.length,0),(H.length+1,0),(H.length+2,0),(H.length+3,0),(H.length+4,0)] hG hB hC' hcl
  (refine runC ?_;with_reducible repeat' first|exact trivial|(apply Fork.mk<;>intro hb)|apply Two.mk)
  refine go_cut (fun _:Unit=>[(3,.ptr H.length 0 0 0),(4,.ptr (H.length+1) 0 0 0),(5,.ptr (H.length+2) 0 0 0),(6,.ptr (H.length+3) 0 0 0),(7,.fn (.func 61) [] [.ptr (H.length+1) 0 0 0,.ptr (H.length+2) 0 0 0]),(8,.list 1 ((ownOf kd names binds).map .str))]) (fun _=>H++[.cells 0 8 [.agg [.int .i64 kd,.str nm,.int .i64 nn,.int .i64 op,.list 1 (names.map .str),.list 8 (exCells subs),.list 9 (bdCells binds),.list 12 (alCells alts)]],.cells 0 1 [.str s],.cells 0 8 [.agg r.cells],.cells 0 8 [.agg [.int .i64 0,.str [],.int .i64 0,.int .i64 0,.list 1 [],.list 8 [],.list 9 [],.list 12 []]]]) (fun _=>True) (fun K hK=>?_) (fun _ _=>?_)
  ·by_cases hk5:kd=5
   ·have hk3:¬ kd=3:=by omega
    have hown:ownOf kd names binds=binds.map Bd.name:=by simp only[ownOf,if_neg hk3,if_pos hk5]
    simp only[if_neg hk3,List.length_nil,List.map_nil]
    (refine run ?_;with_reducible repeat' first|exact trivial|(apply Fork.mk<;>intro hb)|apply Two.mk)
    refine go_loop (fun i:Nat=>[(3,.ptr H.length 0 0 0),(4,.ptr (H.length+1) 0 0 0),(5,.ptr (H.length+2) 0 0 0),(6,.ptr (H.length+3) 0 0 0),(7,.fn (.func 61) [] [.ptr (H.length+1) 0 0 0,.ptr (H.length+2) 0 0 0]),(35,.list 9 (bdCells binds)),(36,.int .i64 binds.length),(37,.int .i64 i),(8,.sl (H.length+4) 0 0 i)])
     (fun i=>H++[.cells 0 8 [.agg [.int .i64 kd,.str nm,.int .i64 nn,.int .i64 op,.list 1 (names.map .str),.list 8 (exCells subs),.list 9 (bdCells binds),.list 12 (alCells alts)]],.cells 0 1 [.str s],.cells 0 8 [.agg r.cells],.cells 0 8 [.agg [.int .i64 0,.str [],.int .i64 0,.int .i64 0,.list 1 [],.list 8 [],.list 9 [],.list 12 []]],.cells 0 1 ((binds.take i).map fun b=> .str b.name)]) (fun i=>binds.length - i) (fun i=>i≤binds.length) 0 (Nat.zero_le _) ?_ ?_
    ·exact wkF (n0:=H.length) [(H.length,0),(H.length+1,0),(H.length+2,0),(H.length+3,0),(H.length+4,0)] hG hB hC' hcl
    rintro K2 i hi hK2
    (refine run ?_;with_reducible repeat' first|exact trivial|(apply Fork.mk<;>intro hb)|apply Two.mk)
    ·refine hK2 _ _ (i+1) (by omega) (by omega) ?_
     simp only[List.take_succ_eq_append_getElem (show i<binds.length by omega),List.map_append,List.map_cons,List.map_nil]
     exact wkF (n0:=H.length) [(H.length,0),(H.length+1,0),(H.length+2,0),(H.length+3,0),(H.length+4,0)] hG hB hC' hcl
    ·refine hK _ _ () trivial ?_
     obtain rfl:i=binds.length:=by omega
     simp only[hown,List.take_length,List.map_map]
     exact wkF (n0:=H.length) [(H.length,0),(H.length+1,0),(H.length+2,0),(H.length+3,0)] hG hB hC' hcl
   ·have hown:ownOf kd names binds=if kd=3 then names else []:=by simp only[ownOf,if_neg hk5]
    (refine run ?_;with_reducible repeat' first|exact trivial|(apply Fork.mk<;>intro hb)|apply Two.mk)
    refine hK _ _ () trivial ?_
    rw[hown]
    exact wkF (n0:=H.length) [(H.length,0),(H.length+1,0),(H.length+2,0),(H.length+3,0)] hG hB hC' hcl
  ·(refine run ?_;with_reducible repeat' first|exact trivial|(apply Fork.mk<;>intro hb)|apply Two.mk)
   refine xcallS (clone_exs G hG subs _ (by omega)) ?_
   rintro v H' ⟨rfl,rfl⟩
   simp only[List.append_assoc,List.cons_append,List.nil_append,List.length_append,List.length_cons,List.length_nil,List.length_set,X,Nat.reduceAdd]
   (refine run ?_;with_reducible repeat' first|exact trivial|(apply Fork.mk<;>intro hb)|apply Two.mk)
   refine xcallS (clone_bds G hG binds _ (by omega)) ?_
   rintro v H' ⟨rfl,rfl⟩
   simp only[List.append_assoc,List.cons_append,List.nil_append,List.length_append,List.length_cons,List.length_nil,List.length_set,X,Nat.reduceAdd]
   (refine run ?_;with_reducible repeat' first|exact trivial|(apply Fork.mk<;>intro hb)|apply Two.mk)
   refine xcallS (clone_als G hG alts _ (by omega)) ?_
   rintro v H' ⟨rfl,rfl⟩
   simp only[List.append_assoc,List.cons_append,List.nil_append,List.length_append,List.length_cons,List.length_nil,List.length_set,X,Nat.reduceAdd]
   (refine run ?_;with_reducible repeat' first|exact trivial|(apply Fork.mk<;>intro hb)|apply Two.mk)
   have hol:(ownOf kd names binds).length<4611686018427387904:=by
    simp only[ownOf];split
    ·omega
    ·split
     ·rw[List.length_map];omega
     ·exact Nat.zero_lt_succ _
   generalize hOW:ownOf kd names binds=ow at hR hol ⊢
   generalize hf:(fun x=>if s∈ow then x else repF s r m x)=f at hR
   have hfx:∀ x,(if s∈ow then x else repF s r m x)=f x:=fun x=>by rw[← hf]
   refine go_loop (fun i:Nat=>[(3,.ptr H.length 0 0 0),(4,.ptr (H.length+1) 0 0 0),(5,.ptr (H.length+2) 0 0 0),(6,.ptr (H.length+3) 0 0 0),(7,.fn (.func 61) [] [.ptr (H.length+1) 0 0 0,.ptr (H.length+2) 0 0 0]),(8,.list 1 (ow.map .str)),(61,.int .i64 subs.length),(62,.int .i64 i)])
    (fun i=>H++[.cells 0 8 [.agg [.int .i64 kd,.str nm,.int .i64 nn,.int .i64 op,.list 1 (names.map .str),.sl (H.length+4) 0 0 subs.length,.sl (H.length+5) 0 0 binds.length,.sl (H.length+6) 0 0 alts.length]],.cells 0 1 [.str s],.cells 0 8 [.agg r.cells],.cells 0 8 [.agg [.int .i64 0,.str [],.int .i64 0,.int .i64 0,.list 1 [],.list 8 [],.list 9 [],.list 12 []]],.cells 0 8 (exCells (mix f subs i)),.cells 0 9 (bdCells binds),.cells 0 12 (alCells alts)]) (fun i=>subs.length - i) (fun i=>i≤subs.length) 0 (Nat.zero_le _) ?_ ?_
   ·rw[mix_zero]
    exact wkF (n0:=H.length) [(H.length,0),(H.length+1,0),(H.length+2,0),(H.length+3,0),(H.length+4,0),(H.length+5,0),(H.length+6,0)] hG hB hC' hcl
   rintro K i hi hK
   rcases Nat.lt_or_ge i subs.length with hlt|hge
   ·have X:=And.intro noX (And.intro (exCells_mix f subs i hlt) (exCells_mixT f subs i (by omega)))
    (refine run ?_;with_reducible repeat' first|exact trivial|(apply Fork.mk<;>intro hb)|apply Two.mk)
    refine xg_callV (by exact evS) (by exact evS) (hin subs[i] ow _ (hwp _ (by simp)) hol (by rw[get_app];rfl) (by rw[get_app];rfl)) ?_
    rintro v H' ⟨rfl,rfl⟩
    rw[hfx]
    (refine run ?_;with_reducible repeat' first|exact trivial|(apply Fork.mk<;>intro hb)|apply Two.mk)
    refine hK _ _ (i+1) (by omega) (by omega) ?_
    rw[exCells_mixset f subs i hlt]
    exact wkF (n0:=H.length) [(H.length,0),(H.length+1,0),(H.length+2,0),(H.length+3,0),(H.length+4,0),(H.length+5,0),(H.length+6,0)] hG hB hC' hcl
   have hi2:i=subs.length:=by omega
   subst hi2
   rw[mix_all]
   clear hK
   (refine run ?_;with_reducible repeat' first|exact trivial|(apply Fork.mk<;>intro hb)|apply Two.mk)
   generalize hg:(fun b:Bd=>Bd.mk b.name (f b.e))=g
   have hgx:∀ b:Bd,g b= .mk b.name (f b.e):=fun b=>by rw[← hg]
   refine go_loop (fun i:Nat=>[(3,.ptr H.length 0 0 0),(4,.ptr (H.length+1) 0 0 0),(5,.ptr (H.length+2) 0 0 0),(6,.ptr (H.length+3) 0 0 0),(7,.fn (.func 61) [] [.ptr (H.length+1) 0 0 0,.ptr (H.length+2) 0 0 0]),(8,.list 1 (ow.map .str)),(80,.int .i64 binds.length),(81,.int .i64 i)])
    (fun i=>H++[.cells 0 8 [.agg [.int .i64 kd,.str nm,.int .i64 nn,.int .i64 op,.list 1 (names.map .str),.sl (H.length+4) 0 0 subs.length,.sl (H.length+5) 0 0 binds.length,.sl (H.length+6) 0 0 alts.length]],.cells 0 1 [.str s],.cells 0 8 [.agg r.cells],.cells 0 8 [.agg [.int .i64 0,.str [],.int .i64 0,.int .i64 0,.list 1 [],.list 8 [],.list 9 [],.list 12 []]],.cells 0 8 (exCells (subs.map f)),.cells 0 9 (bdCells (mix g binds i)),.cells 0 12 (alCells alts)]) (fun i=>binds.length - i) (fun i=>i≤binds.length) 0 (Nat.zero_le _) ?_ ?_
   ·rw[mix_zero]
    exact wkF (n0:=H.length) [(H.length,0),(H.length+1,0),(H.length+2,0),(H.length+3,0),(H.length+4,0),(H.length+5,0),(H.length+6,0)] hG hB hC' hcl
   rintro K i hi hK
   rcases Nat.lt_or_ge i binds.length with hlt|hge
   ·have X:=And.intro noX (And.intro (bdCells_mix g binds i hlt) (bdCells_mixT g binds i (by omega)))
    (refine run ?_;with_reducible repeat' first|exact trivial|(apply Fork.mk<;>intro hb)|apply Two.mk)
    refine xg_callV (by exact evS) (by exact evS) (hin binds[i].e ow _ (hwp _ (List.mem_append_right _ (List.mem_append_left _ (List.mem_map_of_mem (List.getElem_mem hlt))))) hol (by rw[get_app];rfl) (by rw[get_app];rfl)) ?_
    rintro v H' ⟨rfl,rfl⟩
    rw[hfx]
    have hset:(bdCells (mix g binds i)).set i (.agg (.str binds[i].name::((f binds[i].e).cells++List.drop 8 binds[i].e.cells)))=bdCells (mix g binds (i+1)):=by
     rw[Ex.cells_drop,List.append_nil,← bdCells_mixset g binds i hlt,hgx];rfl
    (refine run ?_;with_reducible repeat' first|exact trivial|(apply Fork.mk<;>intro hb)|apply Two.mk)
    refine hK _ _ (i+1) (by omega) (by omega) ?_
    rw[hset]
    exact wkF (n0:=H.length) [(H.length,0),(H.length+1,0),(H.length+2,0),(H.length+3,0),(H.length+4,0),(H.length+5,0),(H.length+6,0)] hG hB hC' hcl
   have hi2:i=binds.length:=by omega
   subst hi2
   rw[mix_all]
   clear hK
   (refine run ?_;with_reducible repeat' first|exact trivial|(apply Fork.mk<;>intro hb)|apply Two.mk)
   generalize hq:(fun a:Al=>Al.mk a.kind a.name a.n a.names (if s∈altOwn kd nm a.names then a.body else repF s r m a.body))=q at hR
   have hqx:∀ a:Al,q a= .mk a.kind a.name a.n a.names (if s∈altOwn kd nm a.names then a.body else repF s r m a.body):=fun a=>by rw[← hq]
   refine go_loop (fun i:Nat=>[(3,.ptr H.length 0 0 0),(4,.ptr (H.length+1) 0 0 0),(5,.ptr (H.length+2) 0 0 0),(6,.ptr (H.length+3) 0 0 0),(7,.fn (.func 61) [] [.ptr (H.length+1) 0 0 0,.ptr (H.length+2) 0 0 0]),(101,.int .i64 alts.length),(102,.int .i64 i)])
    (fun i=>H++[.cells 0 8 [.agg [.int .i64 kd,.str nm,.int .i64 nn,.int .i64 op,.list 1 (names.map .str),.sl (H.length+4) 0 0 subs.length,.sl (H.length+5) 0 0 binds.length,.sl (H.length+6) 0 0 alts.length]],.cells 0 1 [.str s],.cells 0 8 [.agg r.cells],.cells 0 8 [.agg [.int .i64 0,.str [],.int .i64 0,.int .i64 0,.list 1 [],.list 8 [],.list 9 [],.list 12 []]],.cells 0 8 (exCells (subs.map f)),.cells 0 9 (bdCells (binds.map g)),.cells 0 12 (alCells (mix q alts i))]) (fun i=>alts.length - i) (fun i=>i≤alts.length) 0 (Nat.zero_le _) ?_ ?_
   ·rw[mix_zero]
    exact wkF (n0:=H.length) [(H.length,0),(H.length+1,0),(H.length+2,0),(H.length+3,0),(H.length+4,0),(H.length+5,0),(H.length+6,0)] hG hB hC' hcl
   rintro K i hi hK
   rcases Nat.lt_or_ge i alts.length with hlt|hge
   ·have hnl:=Al.names_lt (kd:=kd) (nm:=nm) (nn:=nn) (op:=op) (names:=names) (subs:=subs) (binds:=binds) hlt
    have X:=And.intro noX (And.intro (alCells_mix q alts i hlt) (alCells_mixT q alts i (by omega)))
    (refine run ?_;with_reducible repeat' first|exact trivial|(apply Fork.mk<;>intro hb)|apply Two.mk)
    refine callS (clone_strs G hG alts[i].names _ (by omega)) ?_
    rintro v H' ⟨rfl,rfl⟩
    simp only[List.append_assoc,List.cons_append,List.nil_append,List.length_append,List.length_cons,List.length_nil,List.length_set,X,Nat.reduceAdd]
    (refine runC ?_;with_reducible repeat' first|exact trivial|(apply Fork.mk<;>intro hb)|apply Two.mk)
    refine go_cut (fun _:Unit=>[(3,.ptr H.length 0 0 0),(4,.ptr (H.length+1) 0 0 0),(5,.ptr (H.length+2) 0 0 0),(6,.ptr (H.length+3) 0 0 0),(7,.fn (.func 61) [] [.ptr (H.length+1) 0 0 0,.ptr (H.length+2) 0 0 0]),(101,.int .i64 alts.length),(102,.int .i64 i),(13,.int .i64 i),(14,.list 1 ((altOwn kd nm alts[i].names).map .str))])
     (fun _=>H++[.cells 0 8 [.agg [.int .i64 kd,.str nm,.int .i64 nn,.int .i64 op,.list 1 (names.map .str),.sl (H.length+4) 0 0 subs.length,.sl (H.length+5) 0 0 binds.length,.sl (H.length+6) 0 0 alts.length]],.cells 0 1 [.str s],.cells 0 8 [.agg r.cells],.cells 0 8 [.agg [.int .i64 0,.str [],.int .i64 0,.int .i64 0,.list 1 [],.list 8 [],.list 9 [],.list 12 []]],.cells 0 8 (exCells (subs.map f)),.cells 0 9 (bdCells (binds.map g)),.cells 0 12 (alCells (mix q alts i))]) (fun _=>True) (fun K3 hK3=>?_) (fun _ _=>?_)
    ·(refine run ?_;with_reducible repeat' first|exact trivial|(apply Fork.mk<;>intro hb)|apply Two.mk)
     ·refine hK3 _ _ () trivial ?_
      simp only[altOwn,if_pos hb,List.map_append,List.map_cons,List.map_nil]
      exact wkF (n0:=H.length) [(H.length,0),(H.length+1,0),(H.length+2,0),(H.length+3,0),(H.length+4,0),(H.length+5,0),(H.length+6,0)] hG hB hC' hcl
     ·refine hK3 _ _ () trivial ?_
      simp only[altOwn,if_neg hb,List.append_nil]
      exact wkF (n0:=H.length) [(H.length,0),(H.length+1,0),(H.length+2,0),(H.length+3,0),(H.length+4,0),(H.length+5,0),(H.length+6,0)] hG hB hC' hcl
    ·have hset:(alCells (mix q alts i)).set i (.agg (.int .i64 alts[i].kind:: .str alts[i].name:: .int .i64 alts[i].n:: .list 1 (alts[i].names.map .str)::((if s∈altOwn kd nm alts[i].names then alts[i].body else repF s r m alts[i].body).cells++List.drop 8 alts[i].body.cells)))=alCells (mix q alts (i+1)):=by
      rw[Ex.cells_drop,List.append_nil,← alCells_mixset q alts i hlt,hqx];rfl
     have hao:(altOwn kd nm alts[i].names).length<4611686018427387904:=by
      simp only[altOwn,List.length_append];split<;>simp<;>omega
     (refine run ?_;with_reducible repeat' first|exact trivial|(apply Fork.mk<;>intro hb)|apply Two.mk)
     refine xg_callV (by exact evS) (by exact evS) (hin alts[i].body (altOwn kd nm alts[i].names) _ (hwp _ (List.mem_append_right _ (List.mem_append_right _ (List.mem_map_of_mem (List.getElem_mem hlt))))) hao (by rw[get_app];rfl) (by rw[get_app];rfl)) ?_
     rintro v H' ⟨rfl,rfl⟩
     (refine run ?_;with_reducible repeat' first|exact trivial|(apply Fork.mk<;>intro hb)|apply Two.mk)
     refine hK _ _ (i+1) (by omega) (by omega) ?_
     rw[hset]
     exact wkF (n0:=H.length) [(H.length,0),(H.length+1,0),(H.length+2,0),(H.length+3,0),(H.length+4,0),(H.length+5,0),(H.length+6,0)] hG hB hC' hcl
   have hi2:i=alts.length:=by omega
   subst hi2
   rw[mix_all]
   clear hK
   (refine run ?_;with_reducible repeat' first|exact trivial|(apply Fork.mk<;>intro hb)|apply Two.mk)
   refine Fin.tellN (n0:=H.length) (y:=(Ex.mk kd nm nn op names (subs.map f) (binds.map g) (alts.map q)).sv) hR rfl hC' hcl ?_ ⟨rfl,?_⟩
   ·refine Frz.agg _ _ (.cons _ _ _ _ (.same _ rfl) (.cons _ _ _ _ (.same _ rfl) (.cons _ _ _ _ (.same _ rfl) (.cons _ _ _ _ (.same _ rfl) (.cons _ _ _ _ (.same _ undS) (.cons _ _ _ _ ?_ (.cons _ _ _ _ ?_ (.cons _ _ _ _ ?_ .nil))))))))
    ·exact Frz.sf (by rw[get_app];rfl) (by omega) (by simp) (by rw[List.drop_zero,List.take_of_length_le (by simp[exCells_map])]) (exCells_under _ _)
    ·exact Frz.sf (by rw[get_app];rfl) (by omega) (by simp) (by rw[List.drop_zero,List.take_of_length_le (by simp[bdCells_map])]) (bdCells_under _ _)
    ·exact Frz.sf (by rw[get_app];rfl) (by omega) (by simp) (by rw[List.drop_zero,List.take_of_length_le (by simp[alCells_map])]) (alCells_under _ _)
   ·have hgq:(fun b:Bd=>Bd.mk b.name (if s∈ow then b.e else repF s r m b.e))=g:=by
     rw[← hg];funext b;rw[hfx]
    rw[hgq]
structure Cn where
 name:Str
 arity:Int
 tag:Int
 family:Int
deriving DecidableEq,Inhabited
def Cn.cells (c:Cn):List SV:=[.str c.name,.int .i64 c.arity,.int .i64 c.tag,.int .i64 c.family]
def Cn.sv (c:Cn):SV:= .agg c.cells
def cnCells (l:List Cn):List SV:=l.map Cn.sv
theorem cnCells_len (l:List Cn):(cnCells l).length=l.length:=by simp[cnCells]
theorem cnCells_get2 (l:List Cn) (i:Nat):(cnCells l)[i]? =l[i]?.map fun c=> .agg [.str c.name,.int .i64 c.arity,.int .i64 c.tag,.int .i64 c.family]:=by simp[cnCells,Cn.sv,Cn.cells];rfl
attribute [go_sem] cnCells_len cnCells_get2
theorem cnCells_under (n:Nat) (l:List Cn):SV.underL n (cnCells l)=true:=SV.underL_map fun _ _=>by simp[Cn.sv,Cn.cells,SV.under,SV.underL]
structure Lb where
 name:Str
 con:Str
 place:Int
deriving DecidableEq,Inhabited
def Lb.cells (c:Lb):List SV:=[.str c.name,.str c.con,.int .i64 c.place]
def Lb.sv (c:Lb):SV:= .agg c.cells
def lbCells (l:List Lb):List SV:=l.map Lb.sv
theorem lbCells_len (l:List Lb):(lbCells l).length=l.length:=by simp[lbCells]
theorem lbCells_get2 (l:List Lb) (i:Nat):(lbCells l)[i]? =l[i]?.map fun c=> .agg [.str c.name,.str c.con,.int .i64 c.place]:=by simp[lbCells,Lb.sv,Lb.cells];rfl
attribute [go_sem] lbCells_len lbCells_get2
theorem lbCells_under (n:Nat) (l:List Lb):SV.underL n (lbCells l)=true:=SV.underL_map fun _ _=>by simp[Lb.sv,Lb.cells,SV.under,SV.underL]
structure Tb where
 cons:List Cn
 labels:List Lb
def Tb.cells (t:Tb):List SV:=[.list 4 (cnCells t.cons),.list 3 (lbCells t.labels)]
def Tb.sv (t:Tb):SV:= .agg t.cells
inductive Nd where
 |mk (kind:Int) (name:Str) (n line col:Int) (subs:List Nd)
def Nd.kind:Nd→Int
 | .mk k _ _ _ _ _=>k
def Nd.name:Nd→Str
 | .mk _ s _ _ _ _=>s
def Nd.n:Nd→Int
 | .mk _ _ n _ _ _=>n
def Nd.subs:Nd→List Nd
 | .mk _ _ _ _ _ l=>l
mutual
def Nd.cells:Nd→List SV
 | .mk k s n a b l=>[.int .i64 k,.str s,.int .i64 n,.int .i64 a,.int .i64 b,.list 6 (ndCells l)]
def ndCells:List Nd→List SV
 |[]=>[]
 |e::r=> .agg e.cells::ndCells r
end
def Nd.sv (e:Nd):SV:= .agg e.cells
theorem Nd.cells_len (e:Nd):e.cells.length=6:=by cases e;rfl
theorem ndCells_map:∀ l:List Nd,ndCells l=l.map Nd.sv
 |[]=>rfl
 |e::r=>by rw[ndCells,ndCells_map r];rfl
theorem ndCells_len (l:List Nd):(ndCells l).length=l.length:=by simp[ndCells_map]
theorem ndCells_get2 (l:List Nd) (i:Nat):(ndCells l)[i]? =l[i]?.map fun e=> .agg e.cells:=by rw[ndCells_map];simp;rfl
theorem Nd.cells_take (e:Nd):e.cells.take 6=e.cells:=List.take_of_length_le (by rw[e.cells_len];exact Nat.le_refl _)
theorem Nd.under (n:Nat):∀ (m:Nat) (e:Nd),SizeOf.sizeOf e≤m→SV.underL n e.cells=true
 |0,.mk _ _ _ _ _ _,h=>by simp at h
 |m+1,.mk k s a b c l,h=>by
  have:SV.underL n (ndCells l)=true:=by
   rw[ndCells_map]
   refine SV.underL_map fun x hx=>?_
   have h2:=List.sizeOf_lt_of_mem hx
   have:=Nd.under n m x (by simp at h;omega)
   simpa [Nd.sv,SV.under] using this
  simp[Nd.cells,SV.underL,SV.under,this]
theorem Nd.cells_under (n:Nat) (e:Nd):SV.underL n e.cells=true:=Nd.under n _ e (Nat.le_refl _)
theorem Nd.sv_under (n:Nat) (e:Nd):SV.under n (.agg e.cells)=true:=by simpa [SV.under] using e.cells_under n
theorem ndCells_under (n:Nat) (l:List Nd):SV.underL n (ndCells l)=true:=by rw[ndCells_map];exact SV.underL_map fun x _=>x.sv_under n
attribute [go_sem] ndCells_len ndCells_get2 Nd.cells_take
mutual
def Nd.wt:Nd→Nat
 | .mk _ s _ _ _ l=>1+s.length+ndsWt l
def ndsWt:List Nd→Nat
 |[]=>0
 |e::r=>e.wt+ndsWt r
end
theorem Nd.wt_pos (e:Nd):0<e.wt:=by cases e;simp only[Nd.wt];omega
theorem ndsWt_mem:∀ {l:List Nd} {e:Nd},e∈l→e.wt≤ndsWt l
 |x::r,e,h=>by
  simp only[ndsWt]
  rcases List.mem_cons.1 h with rfl|h
  ·omega
  ·have:=ndsWt_mem h;omega
theorem ndsWt_len:∀ l:List Nd,l.length≤ndsWt l
 |[]=>Nat.le_refl _
 |e::r=>by simp only[List.length_cons,ndsWt];have:=ndsWt_len r;have:=e.wt_pos;omega
structure Rw where
 pats:List Nd
 body:Ex
def Rw.cells (r:Rw):List SV:= .list 6 (ndCells r.pats)::r.body.cells
def Rw.sv (r:Rw):SV:= .agg r.cells
def rwCells (l:List Rw):List SV:=l.map Rw.sv
theorem rwCells_len (l:List Rw):(rwCells l).length=l.length:=by simp[rwCells]
theorem rwCells_get2 (l:List Rw) (i:Nat):(rwCells l)[i]? =l[i]?.map fun c=> .agg (.list 6 (ndCells c.pats)::c.body.cells):=by simp[rwCells,Rw.sv,Rw.cells];rfl
attribute [go_sem] rwCells_len rwCells_get2
structure Pt where
 place:Int
 pat:Nd
def Pt.cells (p:Pt):List SV:= .int .i64 p.place::p.pat.cells
def Pt.sv (p:Pt):SV:= .agg p.cells
def ptCells (l:List Pt):List SV:=l.map Pt.sv
theorem ptCells_len (l:List Pt):(ptCells l).length=l.length:=by simp[ptCells]
theorem ptCells_get2 (l:List Pt) (i:Nat):(ptCells l)[i]? =l[i]?.map fun c=> .agg (.int .i64 c.place::c.pat.cells):=by simp[ptCells,Pt.sv,Pt.cells];rfl
theorem ptCells_under (n:Nat) (l:List Pt):SV.underL n (ptCells l)=true:=SV.underL_map fun x _=>by simp[Pt.sv,Pt.cells,SV.under,SV.underL,x.pat.cells_under n]
theorem ptCells_snoc (l:List Pt) (x:Pt):ptCells (l++[x])=ptCells l++[.agg (.int .i64 x.place::x.pat.cells)]:=by simp[ptCells];rfl
attribute [go_sem] ptCells_len ptCells_get2
structure Sh where
 con:Cn
 parts:List Pt
def Sh.cells (s:Sh):List SV:=[.str s.con.name,.int .i64 s.con.arity,.int .i64 s.con.tag,.int .i64 s.con.family,.list 7 (ptCells s.parts)]
def consF (l:List Cn) (s:Str):Option Cn:=l.find? fun c=>decide (c.name=s)
def labF (l:List Lb) (con name:Str):Option Int:=(l.find? fun c=>decide (c.con=con∧c.name=name)).map Lb.place
def numL:Nat→List Nd→List Pt
 |_,[]=>[]
 |i,p::r=>⟨(i:Int),p⟩::numL (i+1) r
theorem numL_len:∀ (l:List Nd) (i:Nat),(numL i l).length=l.length
 |[],_=>rfl
 |p::r,i=>by simp[numL,numL_len r]
theorem numL_get:∀ (l:List Nd) (i k:Nat),(numL i l)[k]? =l[k]?.map fun p=>⟨((i+k:Nat):Int),p⟩
 |[],i,k=>by simp[numL]
 |p::r,i,0=>by simp[numL]
 |p::r,i,k+1=>by
  simp only[numL,List.getElem?_cons_succ,numL_get r (i+1) k]
  cases r[k]? with
  |none=>rfl
  |some x=>simp only[Option.map_some];congr 2;omega
def plainF (cs:List Cn) (name:Str) (ps:List Nd):Option Sh:=
 match consF cs name with
 |some c=>if c.arity=ps.length then some ⟨c,numL 0 ps⟩ else none
 |none=>none
def emptyN:Str:=[80,114,105,109,46,91,93]
def consN:Str:=[80,114,105,109,46,58]
def pairN:Str:=[80,114,105,109,46,40,44,41]
def tripleN:Str:=[80,114,105,109,46,40,44,44,41]
def unitN:Str:=[80,114,105,109,46,40,41]
def nextN:Str:=[80,114,105,109,46,110,101,120,116]
def listN (r:List Nd):Nd:= .mk 49 [] 0 0 0 r
def byteN (b:UInt8):Nd:= .mk 44 [] (b.toNat:Int) 0 0 []
def listF (cs:List Cn):List Nd→Option Sh
 |[]=>plainF cs emptyN []
 |p::r=>plainF cs consN [p,listN r]
def makeF (ls:List Lb) (nm:Str) (ar:Int):List Int→List Nd→Option (List Pt)
 |_,[]=>some []
 |seen,f::r=>
  match labF ls nm f.name,f.subs with
  |some n,[p]=>if f.kind=37∧0≤n∧n<ar∧n∉seen then (makeF ls nm ar (seen++[n]) r).map (⟨n,p⟩:: ·) else none
  |_,_=>none
def shpF (t:Tb) (p:Nd):Option Sh:=
 if p.kind=46 then plainF t.cons p.name p.subs
 else if p.kind=48 then (if p.subs.length=2 then plainF t.cons pairN p.subs else if p.subs.length=3 then plainF t.cons tripleN p.subs else none)
 else if p.kind=49 then listF t.cons p.subs
 else if p.kind=45 then (if p.subs.length=0 then listF t.cons (p.name.map byteN) else none)
 else if p.kind=51 then (match consF t.cons p.name with
  |some c=>(makeF t.labels p.name c.arity [] p.subs).map fun l=>⟨c,l⟩
  |none=>none)
 else none
def rgtL (F:Nd→Bool×Bool):Bool→List Pt→Bool×Bool
 |sure,[]=>(true,sure)
 |sure,x::r=>if (F x.pat).1 then rgtL F (sure&&(F x.pat).2) r else (false,false)
def z0 (n:Nat):Bool:=decide (n=0)
def isE (s:Str):Bool:=decide (s=[])
def sure0 (fam k:Int):Bool:=decide (fam=1)&&!decide (k=49)&&!decide (k=45)
def rgtF (t:Tb):Nat→Nd→Bool×Bool
 |0,_=>(false,false)
 |f+1,p=>
  if p.kind=43 then (z0 p.subs.length,z0 p.subs.length)
  else if p.kind=42 then (z0 p.subs.length&&!isE p.name,z0 p.subs.length&&!isE p.name)
  else if p.kind=44 then (z0 p.subs.length,false)
  else if p.kind=50 then (match p.subs with
   |[q]=>if p.name=[] then (false,false) else rgtF t f q
   |_=>(false,false))
  else match shpF t p with
   |some s=>rgtL (rgtF t f) (sure0 s.con.family p.kind) s.parts
   |none=>(false,false)
mutual
def Nd.msr:Nd→Nat
 | .mk _ s _ _ _ l=>2+5*s.length+ndsMsr l
def ndsMsr:List Nd→Nat
 |[]=>0
 |e::r=>3+e.msr+ndsMsr r
end
theorem Nd.msr_le:(∀ e:Nd,e.msr+3≤5*e.wt)∧∀ l:List Nd,ndsMsr l≤5*ndsWt l:=by
 have key:∀ m:Nat,(∀ e:Nd,SizeOf.sizeOf e≤m→e.msr+3≤5*e.wt)∧∀ l:List Nd,SizeOf.sizeOf l≤m→ndsMsr l≤5*ndsWt l:=by
  intro m
  induction m with
  |zero=>exact⟨fun e h=>by cases e;simp at h,fun l h=>by cases l<;>simp at h⟩
  |succ m ih=>
   refine⟨fun e h=>?_,fun l h=>?_⟩
   ·obtain⟨k,s,n,a,b,l⟩:=e
    have:=ih.2 l (by simp at h;omega)
    simp only[Nd.msr,Nd.wt];omega
   ·cases l with
    |nil=>simp[ndsMsr]
    |cons e r=>
     have h1:=ih.1 e (by simp at h;omega)
     have h2:=ih.2 r (by simp at h;omega)
     simp only[ndsMsr,ndsWt];omega
 exact⟨fun e=>(key _).1 e (Nat.le_refl _),fun l=>(key _).2 l (Nat.le_refl _)⟩
def ptsMsr (l:List Pt):Nat:=(l.map fun p=>1+p.pat.msr).sum
theorem numL_msr:∀ (l:List Nd) (i:Nat),ptsMsr (numL i l)+2*l.length=ndsMsr l
 |[],_=>rfl
 |p::r,i=>by have:=numL_msr r (i+1);simp only[ptsMsr] at this;simp only[ptsMsr,numL,ndsMsr,List.map_cons,List.sum_cons,List.length_cons];omega
theorem plainF_some {cs:List Cn} {name:Str} {ps:List Nd} {s:Sh} (h:plainF cs name ps=some s):consF cs name=some s.con∧s.con.arity=ps.length∧s.parts=numL 0 ps:=by
 unfold plainF at h
 split at h
 ·rename_i c hc
  split at h
  ·rename_i ha;cases h;exact⟨hc,ha,rfl⟩
  ·cases h
 ·cases h
theorem makeF_msr {ls:List Lb} {nm:Str} {ar:Int}:∀ {l:List Nd} {seen:List Int} {ps:List Pt},makeF ls nm ar seen l=some ps→ptsMsr ps≤ndsMsr l∧∀ p∈ps,0≤p.place∧p.place<ar
 |[],seen,ps,h=>by simp only[makeF,Option.some.injEq] at h;subst h;simp[ptsMsr]
 |f::r,seen,ps,h=>by
  obtain⟨k,s,n,a,b,fs⟩:=f
  unfold makeF at h
  split at h
  ·rename_i n p hn hs
   split at h
   ·rename_i hc
    obtain⟨qs,hq,rfl⟩:=Option.map_eq_some_iff.1 h
    obtain⟨i1,i2⟩:=makeF_msr hq
    simp only[Nd.subs] at hs
    subst hs
    refine⟨?_,fun x hx=>?_⟩
    ·simp only[ptsMsr] at i1
     simp only[ptsMsr,List.map_cons,List.sum_cons,ndsMsr,Nd.msr];omega
    ·rcases List.mem_cons.1 hx with rfl|hx
     ·exact⟨hc.2.1,hc.2.2.1⟩
     ·exact i2 x hx
   ·cases h
  ·cases h
theorem bytes_msr:∀ l:Str,ndsMsr (l.map byteN)=5*l.length
 |[]=>rfl
 |b::r=>by simp only[List.map_cons,ndsMsr,bytes_msr r,List.length_cons,byteN,Nd.msr];simp;omega
theorem listF_msr {cs:List Cn} {l:List Nd} {s:Sh} (h:listF cs l=some s):l=[]∧ptsMsr s.parts=0∨∃ x r,l=x::r∧ptsMsr s.parts=4+x.msr+ndsMsr r:=by
 cases l with
 |nil=>obtain⟨_,_,h3⟩:=plainF_some h;rw[h3];exact .inl ⟨rfl,rfl⟩
 |cons x r=>
  obtain⟨_,_,h3⟩:=plainF_some h
  refine .inr ⟨x,r,rfl,?_⟩
  have:=numL_msr [x,listN r] 0
  rw[h3]
  simp only[ndsMsr,listN,Nd.msr,List.length_nil,List.length_cons] at this ⊢
  omega
theorem plain_place {cs:List Cn} {name:Str} {ps:List Nd} {s:Sh} (h:plainF cs name ps=some s):∀ p∈s.parts,0≤p.place∧p.place<s.con.arity:=by
 obtain⟨_,h2,h3⟩:=plainF_some h
 intro p hp
 rw[h3] at hp
 obtain⟨k,hk⟩:=List.getElem?_of_mem hp
 rw[numL_get] at hk
 obtain⟨x,hx,rfl⟩:=Option.map_eq_some_iff.1 hk
 have:=(List.getElem?_eq_some_iff.1 hx).1
 rw[h2];simp only;omega
theorem shpF_place {t:Tb} {p:Nd} {s:Sh} (h:shpF t p=some s):∀ q∈s.parts,0≤q.place∧q.place<s.con.arity:=by
 unfold shpF at h
 split at h
 ·exact plain_place h
 split at h
 ·split at h
  ·exact plain_place h
  split at h
  ·exact plain_place h
  ·cases h
 have hl:∀ {l:List Nd},listF t.cons l=some s→∀ q∈s.parts,0≤q.place∧q.place<s.con.arity:=fun {l} h=>by
  cases l with
  |nil=>exact plain_place h
  |cons _ _=>exact plain_place h
 split at h
 ·exact hl h
 split at h
 ·split at h
  ·exact hl h
  ·cases h
 split at h
 ·split at h
  ·obtain⟨ps,h1,rfl⟩:=Option.map_eq_some_iff.1 h
   exact(makeF_msr h1).2
  ·cases h
 ·cases h
theorem Nd.msr_eq (p:Nd):p.msr=2+5*p.name.length+ndsMsr p.subs:=by cases p;rfl
theorem shpF_msr {t:Tb} {p:Nd} {s:Sh} (h:shpF t p=some s):ptsMsr s.parts<p.msr:=by
 have hm:=p.msr_eq
 have hl:∀ {cs:List Cn} {x:Str},plainF cs x p.subs=some s→ptsMsr s.parts<p.msr:=fun {cs x} h=>by
  obtain⟨_,_,h3⟩:=plainF_some h
  have:=numL_msr p.subs 0
  rw[h3];omega
 unfold shpF at h
 split at h
 ·exact hl h
 split at h
 ·split at h
  ·exact hl h
  split at h
  ·exact hl h
  ·cases h
 split at h
 ·rcases listF_msr h with⟨_,h2⟩|⟨x,r,h1,h2⟩
  ·omega
  ·rw[h1] at hm
   simp only[ndsMsr] at hm;omega
 split at h
 ·split at h
  ·rcases listF_msr h with⟨_,h2⟩|⟨x,r,h1,h2⟩
   ·omega
   ·have h3:=bytes_msr p.name
    rw[h1] at h3
    simp only[ndsMsr] at h3
    omega
  ·cases h
 split at h
 ·split at h
  ·obtain⟨ps,h1,rfl⟩:=Option.map_eq_some_iff.1 h
   have:=(makeF_msr h1).1
   simp only;omega
  ·cases h
 ·cases h
theorem ptsMsr_mem:∀ {l:List Pt} {p:Pt},p∈l→p.pat.msr<ptsMsr l+0∨p.pat.msr+1≤ptsMsr l
 |x::r,p,h=>by
  rcases List.mem_cons.1 h with rfl|h
  ·right;simp[ptsMsr];omega
  ·have:=ptsMsr_mem h;right;simp[ptsMsr] at this ⊢;omega
theorem shpF_part {t:Tb} {p:Nd} {s:Sh} (h:shpF t p=some s) {q:Pt} (hq:q∈s.parts):q.pat.msr+1<p.msr:=by
 have:=shpF_msr h
 have:=ptsMsr_mem hq
 omega
section
open Go Go.ChangeShapes Go.WideShapes Go.RowKit
def Cn.wt (c:Cn):Nat:=c.name.length+4
def Lb.wt (c:Lb):Nat:=c.name.length+c.con.length+3
def Tb.wt (t:Tb):Nat:=2+(t.cons.map Cn.wt).sum+(t.labels.map Lb.wt).sum
def Rw.wt (r:Rw):Nat:=1+ndsWt r.pats+r.body.wt
structure Xr where
 names:List Str
 first:Int
 rows:List Rw
def Xr.cells (x:Xr):List SV:=[.list 1 (x.names.map .str),.int .i64 x.first,.list 9 (rwCells x.rows)]
def Xr.wt (x:Xr):Nat:=strsWt x.names+(x.rows.map Rw.wt).sum
theorem ndsWt_sum:∀ l:List Nd,ndsWt l=(l.map Nd.wt).sum
 |[]=>rfl
 |e::r=>by rw[ndsWt,ndsWt_sum r];rfl
section
variable {H:Type} {enc:TypeId×Value→H} {W:World} {sp:Nat→Bool}
theorem read_cn (n:Nat):Rd enc Tryd.prog W sp n 55 Cn.cells Cn.wt:=by
 intro cs x hx
 obtain⟨xs,m,hm,rfl,hl,hlen,hf⟩:=DataW.trod_struct Tryd.underlying55 hx
 obtain⟨z0,z1,z2,z3,rfl⟩:∃ z0 z1 z2 z3,xs=[z0,z1,z2,z3]:=by
  match xs,(show xs.length=4 from hlen) with
  |[a,b,c,d],_=>exact⟨a,b,c,d,rfl⟩
 have hsz:Tryd.prog.cellsOf 55=4:=by kernel_rfl
 obtain⟨y0,s,e0,g0,w0⟩:=field_of hf 0 0 1 (by kernel_rfl) (by kernel_rfl) (read_str m) (by simp)
 obtain⟨y1,a,e1,g1,w1⟩:=field_of hf 1 1 1 (by kernel_rfl) (by kernel_rfl) (read_int m) (by simp)
 obtain⟨y2,b,e2,g2,w2⟩:=field_of hf 2 2 1 (by kernel_rfl) (by kernel_rfl) (read_int m) (by simp)
 obtain⟨y3,c,e3,g3,w3⟩:=field_of hf 3 3 1 (by kernel_rfl) (by kernel_rfl) (read_int m) (by simp)
 rw[hsz] at hl
 refine⟨⟨s,a,b,c⟩,?_,by rw[hsz,hl],?_⟩
 ·have:(Cn.mk s a b c).cells=[.str s]++([.int .i64 a]++([.int .i64 b]++([.int .i64 c]++[]))):=rfl
  rw[this,← List.drop_zero (l:=cs)]
  refine .cut g0 (.cut g1 (.cut g2 (.cut g3 ?_)))
  rw[List.drop_eq_nil_of_le (by omega)]
  exact .nil
 ·cases e0;cases e1;cases e2;cases e3
  simp only[Rows.uptoBulk,Rows.uptoBulkAll,List.map_cons,List.map_nil,Cn.wt]
  omega
theorem read_cns (n:Nat):Rd enc Tryd.prog W sp n 22 (fun l:List Cn=>[.list 4 (cnCells l)]) (fun l=>1+(l.map Cn.wt).sum):=
 rd_slice (enc:=enc) (P:=Tryd.prog) (W:=W) (sp:=sp) (t:=22) (e:=55) true (f:=Cn.cells) (wt:=Cn.wt) (n:=4) (N:=n) (by kernel_rfl) (by kernel_rfl) (by kernel_rfl) (by omega) (.inl rfl) (fun m _=>read_cn m)
theorem read_lb (n:Nat):Rd enc Tryd.prog W sp n 93 Lb.cells Lb.wt:=by
 intro cs x hx
 obtain⟨xs,m,hm,rfl,hl,hlen,hf⟩:=DataW.trod_struct Tryd.underlying93 hx
 obtain⟨z0,z1,z2,rfl⟩:∃ z0 z1 z2,xs=[z0,z1,z2]:=by
  match xs,(show xs.length=3 from hlen) with
  |[a,b,c],_=>exact⟨a,b,c,rfl⟩
 have hsz:Tryd.prog.cellsOf 93=3:=by kernel_rfl
 obtain⟨y0,s,e0,g0,w0⟩:=field_of hf 0 0 1 (by kernel_rfl) (by kernel_rfl) (read_str m) (by simp)
 obtain⟨y1,a,e1,g1,w1⟩:=field_of hf 1 1 1 (by kernel_rfl) (by kernel_rfl) (read_str m) (by simp)
 obtain⟨y2,b,e2,g2,w2⟩:=field_of hf 2 2 1 (by kernel_rfl) (by kernel_rfl) (read_int m) (by simp)
 rw[hsz] at hl
 refine⟨⟨s,a,b⟩,?_,by rw[hsz,hl],?_⟩
 ·have:(Lb.mk s a b).cells=[.str s]++([.str a]++([.int .i64 b]++[])):=rfl
  rw[this,← List.drop_zero (l:=cs)]
  refine .cut g0 (.cut g1 (.cut g2 ?_))
  rw[List.drop_eq_nil_of_le (by omega)]
  exact .nil
 ·cases e0;cases e1;cases e2
  simp only[Rows.uptoBulk,Rows.uptoBulkAll,List.map_cons,List.map_nil,Lb.wt]
  omega
theorem read_lbs (n:Nat):Rd enc Tryd.prog W sp n 23 (fun l:List Lb=>[.list 3 (lbCells l)]) (fun l=>1+(l.map Lb.wt).sum):=
 rd_slice (enc:=enc) (P:=Tryd.prog) (W:=W) (sp:=sp) (t:=23) (e:=93) true (f:=Lb.cells) (wt:=Lb.wt) (n:=3) (N:=n) (by kernel_rfl) (by kernel_rfl) (by kernel_rfl) (by omega) (.inl rfl) (fun m _=>read_lb m)
theorem read_tb (n:Nat):Rd enc Tryd.prog W sp n 25 Tb.cells Tb.wt:=by
 intro cs x hx
 obtain⟨xs,m,hm,rfl,hl,hlen,hf⟩:=DataW.trod_struct Tryd.underlying25 hx
 obtain⟨z0,z1,rfl⟩:=len_two (show xs.length=2 from hlen)
 have hsz:Tryd.prog.cellsOf 25=2:=by kernel_rfl
 obtain⟨y0,c,e0,g0,w0⟩:=field_of hf 0 0 1 (by kernel_rfl) (by kernel_rfl) (read_cns m) (by simp)
 obtain⟨y1,b,e1,g1,w1⟩:=field_of hf 1 1 1 (by kernel_rfl) (by kernel_rfl) (read_lbs m) (by simp)
 rw[hsz] at hl
 refine⟨⟨c,b⟩,?_,by rw[hsz,hl],?_⟩
 ·have:(Tb.mk c b).cells=[.list 4 (cnCells c)]++([.list 3 (lbCells b)]++[]):=rfl
  rw[this,← List.drop_zero (l:=cs)]
  refine .cut g0 (.cut g1 ?_)
  rw[List.drop_eq_nil_of_le (by omega)]
  exact .nil
 ·cases e0;cases e1
  simp only[Rows.uptoBulk,Rows.uptoBulkAll,List.map_cons,List.map_nil,Tb.wt]
  omega
theorem nd_cells (k:Int) (s:Str) (n a b:Int) (l:List Nd):
 (Nd.mk k s n a b l).cells=[.int .i64 k]++([.str s]++([.int .i64 n]++([.int .i64 a]++([.int .i64 b]++([.list 6 (l.map fun x=>bx true x.cells)]++[]))))):=by
 simp only[Nd.cells,ndCells_map];rfl
theorem read_nd (n:Nat):Rd enc Tryd.prog W sp n 42 Nd.cells Nd.wt:=by
 induction n using Nat.strongRecOn with
 |_ n ih=>
 intro cs x hx
 obtain⟨xs,m,hm,rfl,hl,hlen,hf⟩:=DataW.trod_struct Tryd.underlying42 hx
 obtain⟨z0,z1,z2,z3,z4,z5,rfl⟩:∃ z0 z1 z2 z3 z4 z5,xs=[z0,z1,z2,z3,z4,z5]:=by
  match xs,(show xs.length=6 from hlen) with
  |[a,b,c,d,e,f],_=>exact⟨a,b,c,d,e,f,rfl⟩
 have hsz:Tryd.prog.cellsOf 42=6:=by kernel_rfl
 have hsubs:∀ m',m=m'+1→Rd enc Tryd.prog W sp m' 42 Nd.cells Nd.wt:=fun m' e=>ih m' (by omega)
 obtain⟨y0,k,e0,g0,w0⟩:=field_of hf 0 0 1 (by kernel_rfl) (by kernel_rfl) (read_int m) (by simp)
 obtain⟨y1,s,e1,g1,w1⟩:=field_of hf 1 1 1 (by kernel_rfl) (by kernel_rfl) (read_str m) (by simp)
 obtain⟨y2,i,e2,g2,w2⟩:=field_of hf 2 2 1 (by kernel_rfl) (by kernel_rfl) (read_int m) (by simp)
 obtain⟨y3,a,e3,g3,w3⟩:=field_of hf 3 3 1 (by kernel_rfl) (by kernel_rfl) (read_int m) (by simp)
 obtain⟨y4,b,e4,g4,w4⟩:=field_of hf 4 4 1 (by kernel_rfl) (by kernel_rfl) (read_int m) (by simp)
 obtain⟨y5,l,e5,g5,w5⟩:=field_of hf 5 5 1 (by kernel_rfl) (by kernel_rfl) (rd_slice (t:=32) (e:=42) true (by kernel_rfl) (by kernel_rfl) (n:=6) (by kernel_rfl) (by omega) (.inl rfl) hsubs) (by simp)
 rw[hsz] at hl
 refine⟨.mk k s i a b l,?_,by rw[hsz,hl],?_⟩
 ·rw[nd_cells,← List.drop_zero (l:=cs)]
  refine .cut g0 (.cut g1 (.cut g2 (.cut g3 (.cut g4 (.cut g5 ?_)))))
  rw[List.drop_eq_nil_of_le (by omega)]
  exact .nil
 ·cases e0;cases e1;cases e2;cases e3;cases e4;cases e5
  simp only[Rows.uptoBulk,Rows.uptoBulkAll,List.map_cons,List.map_nil,Nd.wt,ndsWt_sum]
  omega
theorem read_nds (n:Nat):Rd enc Tryd.prog W sp n 32 (fun l:List Nd=>[.list 6 (ndCells l)]) (fun l=>1+ndsWt l):=by
 have h:=rd_slice (enc:=enc) (P:=Tryd.prog) (W:=W) (sp:=sp) (t:=32) (e:=42) true (f:=Nd.cells) (wt:=Nd.wt) (n:=6) (N:=n) (by kernel_rfl) (by kernel_rfl) (by kernel_rfl) (by omega) (.inl rfl) (fun m _=>read_nd m)
 intro cs x hx
 obtain⟨a,h1,h2,h3⟩:=h cs x hx
 refine⟨a,?_,h2,by show 1+ndsWt a≤_;rw[ndsWt_sum];exact h3⟩
 rw[show(fun l:List Nd=>[SV.list 6 (ndCells l)]) a=[.list 6 (a.map fun x=>bx true x.cells)] by simp only[ndCells_map];rfl]
 exact h1
theorem read_rw (n:Nat):Rd enc Tryd.prog W sp n 39 Rw.cells Rw.wt:=by
 intro cs x hx
 obtain⟨xs,m,hm,rfl,hl,hlen,hf⟩:=DataW.trod_struct Tryd.underlying39 hx
 obtain⟨z0,z1,rfl⟩:=len_two (show xs.length=2 from hlen)
 have hsz:Tryd.prog.cellsOf 39=9:=by kernel_rfl
 obtain⟨y0,c,e0,g0,w0⟩:=field_of hf 0 0 1 (by kernel_rfl) (by kernel_rfl) (read_nds m) (by simp)
 obtain⟨y1,b,e1,g1,w1⟩:=field_of hf 1 1 8 (by kernel_rfl) (by kernel_rfl) (read_ex m).1 (by simp)
 rw[hsz] at hl
 refine⟨⟨c,b⟩,?_,by rw[hsz,hl],?_⟩
 ·have:(Rw.mk c b).cells=[.list 6 (ndCells c)]++(b.cells++[]):=by simp[Rw.cells]
  rw[this,← List.drop_zero (l:=cs)]
  refine .cut g0 (.cut g1 ?_)
  rw[List.drop_eq_nil_of_le (by omega)]
  exact .nil
 ·cases e0;cases e1
  simp only[Rows.uptoBulk,Rows.uptoBulkAll,List.map_cons,List.map_nil,Rw.wt]
  omega
theorem read_rws (n:Nat):Rd enc Tryd.prog W sp n 27 (fun l:List Rw=>[.list 9 (rwCells l)]) (fun l=>1+(l.map Rw.wt).sum):=
 rd_slice (enc:=enc) (P:=Tryd.prog) (W:=W) (sp:=sp) (t:=27) (e:=39) true (f:=Rw.cells) (wt:=Rw.wt) (n:=9) (N:=n) (by kernel_rfl) (by kernel_rfl) (by kernel_rfl) (by omega) (.inl rfl) (fun m _=>read_rw m)
theorem read_xr (n:Nat):Rd enc Tryd.prog W sp n 29 Xr.cells Xr.wt:=by
 intro cs x hx
 obtain⟨xs,m,hm,rfl,hl,hlen,hf⟩:=DataW.trod_struct Tryd.underlying29 hx
 obtain⟨z0,z1,z2,rfl⟩:∃ z0 z1 z2,xs=[z0,z1,z2]:=by
  match xs,(show xs.length=3 from hlen) with
  |[a,b,c],_=>exact⟨a,b,c,rfl⟩
 have hsz:Tryd.prog.cellsOf 29=3:=by kernel_rfl
 obtain⟨y0,c,e0,g0,w0⟩:=field_of hf 0 0 1 (by kernel_rfl) (by kernel_rfl) (read_strs m) (by simp)
 obtain⟨y1,i,e1,g1,w1⟩:=field_of hf 1 1 1 (by kernel_rfl) (by kernel_rfl) (read_int m) (by simp)
 obtain⟨y2,b,e2,g2,w2⟩:=field_of hf 2 2 1 (by kernel_rfl) (by kernel_rfl) (read_rws m) (by simp)
 rw[hsz] at hl
 refine⟨⟨c,i,b⟩,?_,by rw[hsz,hl],?_⟩
 ·have:(Xr.mk c i b).cells=[.list 1 (c.map .str)]++([.int .i64 i]++([.list 9 (rwCells b)]++[])):=rfl
  rw[this,← List.drop_zero (l:=cs)]
  refine .cut g0 (.cut g1 (.cut g2 ?_))
  rw[List.drop_eq_nil_of_le (by omega)]
  exact .nil
 ·cases e0;cases e1;cases e2
  simp only[Rows.uptoBulk,Rows.uptoBulkAll,List.map_cons,List.map_nil,Xr.wt]
  omega
end
theorem sum_len {α:Type} {f:α→Nat} (h:∀ x,1≤f x):∀ l:List α,l.length≤(l.map f).sum
 |[]=>Nat.zero_le _
 |x::l=>by have:=h x;have:=sum_len h l;simp only[List.length_cons,List.map_cons,List.sum_cons];omega
theorem sum_mem {α:Type} {f:α→Nat}:∀ {l:List α} {x:α},x∈l→f x≤(l.map f).sum
 |y::l,x,h=>by
  simp only[List.map_cons,List.sum_cons]
  rcases List.mem_cons.1 h with rfl|h
  ·omega
  ·have:=sum_mem (f:=f) h;omega
end
def conStep (es:List (SV×SV)) (c:Cn):List (SV×SV):=if (findSV es (.str c.name)).isSome then es else es++[(.str c.name,c.sv)]
def consM (l:List Cn):List (SV×SV):=l.foldl conStep []
def labStep (es:List (SV×SV)) (c:Lb):List (SV×SV):=if (findSV es (.agg [.str c.con,.str c.name])).isSome then es else es++[(.agg [.str c.con,.str c.name],.int .i64 c.place)]
def labM (l:List Lb):List (SV×SV):=l.foldl labStep []
theorem findSV_snoc:∀ (es:List (SV×SV)) (k v x:SV),findSV (es++[(k,v)]) x=(findSV es x).or (if SV.keyEq x k then some v else none)
 |[],k,v,x=>by simp[findSV]
 |(k',v')::r,k,v,x=>by
  simp only[List.cons_append,findSV,findSV_snoc r]
  split<;>simp
theorem setSV_none:∀ (es:List (SV×SV)) (k v:SV),findSV es k=none→setSV es k v=es++[(k,v)]
 |[],k,v,_=>rfl
 |(k',v')::r,k,v,h=>by
  simp only[findSV] at h
  split at h
  ·cases h
  ·rename_i hk
   simp only[setSV,hk,if_false,setSV_none r k v h,List.cons_append]
   rfl
theorem keyEq_str (a b:Str):SV.keyEq (.str a) (.str b)=decide (a=b):=by rw[Bool.eq_iff_iff];simp[SV.keyEq]
theorem keyEq_pair (a b c d:Str):SV.keyEq (.agg [.str a,.str b]) (.agg [.str c,.str d])=decide (a=c∧b=d):=by rw[Bool.eq_iff_iff];simp[SV.keyEq]
theorem consM_find:∀ (l:List Cn) (es:List (SV×SV)) (s:Str),findSV (l.foldl conStep es) (.str s)=(findSV es (.str s)).or ((consF l s).map Cn.sv)
 |[],es,s=>by simp[consF]
 |c::r,es,s=>by
  rw[List.foldl_cons,consM_find r]
  have h:consF (c::r) s=if c.name=s then some c else consF r s:=by simp only[consF,List.find?_cons];split<;>simp_all
  rw[h]
  unfold conStep
  by_cases hf:(findSV es (.str c.name)).isSome
  ·rw[if_pos hf]
   by_cases hn:c.name=s
   ·rw[if_pos hn,← hn]
    obtain⟨x,hx⟩:=Option.isSome_iff_exists.1 hf
    rw[hx];rfl
   ·rw[if_neg hn]
  ·rw[if_neg hf,findSV_snoc,keyEq_str]
   by_cases hn:c.name=s
   ·rw[if_pos hn,hn]
    cases findSV es (.str s)<;>simp
   ·rw[if_neg hn,decide_eq_false (fun h=>hn h.symm)]
    simp
theorem labM_find:∀ (l:List Lb) (es:List (SV×SV)) (s t:Str),findSV (l.foldl labStep es) (.agg [.str s,.str t])=(findSV es (.agg [.str s,.str t])).or ((labF l s t).map (.int .i64 ·))
 |[],es,s,t=>by simp[labF]
 |c::r,es,s,t=>by
  rw[List.foldl_cons,labM_find r]
  have h:labF (c::r) s t=if c.con=s∧c.name=t then some c.place else labF r s t:=by simp only[labF,List.find?_cons];split<;>simp_all
  rw[h]
  unfold labStep
  by_cases hf:(findSV es (.agg [.str c.con,.str c.name])).isSome
  ·rw[if_pos hf]
   by_cases hn:c.con=s∧c.name=t
   ·rw[if_pos hn,← hn.1,← hn.2]
    obtain⟨x,hx⟩:=Option.isSome_iff_exists.1 hf
    rw[hx];rfl
   ·rw[if_neg hn]
  ·rw[if_neg hf,findSV_snoc,keyEq_pair]
   by_cases hn:c.con=s∧c.name=t
   ·rw[if_pos hn,hn.1,hn.2]
    cases findSV es (.agg [.str s,.str t])<;>simp
   ·rw[if_neg hn,decide_eq_false (fun h=>hn ⟨h.1.symm,h.2.symm⟩)]
    simp
def getC (l:List Cn) (s:Str):Cn:=(consF l s).getD ⟨[],0,0,0⟩
def getLb (l:List Lb) (s t:Str):Int:=(labF l s t).getD 0
theorem consM_zero (l:List Cn) (s:Str):(findSV (consM l) (.str s)).getD (.agg [.str [],.int .i64 0,.int .i64 0,.int .i64 0])= .agg [.str (getC l s).name,.int .i64 (getC l s).arity,.int .i64 (getC l s).tag,.int .i64 (getC l s).family]:=by
 rw[consM,consM_find]
 unfold getC
 cases consF l s<;>rfl
theorem consM_has (l:List Cn) (s:Str):(findSV (consM l) (.str s)).isSome=(consF l s).isSome:=by
 rw[consM,consM_find]
 cases consF l s<;>rfl
theorem labM_zero (l:List Lb) (s t:Str):(findSV (labM l) (.agg [.str s,.str t])).getD (.int .i64 0)= .int .i64 (getLb l s t):=by
 rw[labM,labM_find]
 unfold getLb
 cases labF l s t<;>rfl
theorem labM_has (l:List Lb) (s t:Str):(findSV (labM l) (.agg [.str s,.str t])).isSome=(labF l s t).isSome:=by
 rw[labM,labM_find]
 cases labF l s t<;>rfl
theorem consM_snoc (l:List Cn) (c:Cn):consM (l++[c])=if (consF l c.name).isSome then consM l else setSV (consM l) (.str c.name) (.agg [.str c.name,.int .i64 c.arity,.int .i64 c.tag,.int .i64 c.family]):=by
 have h:consM (l++[c])=conStep (consM l) c:=by simp[consM]
 rw[h,conStep,consM_has]
 split
 ·rfl
 ·rename_i hn
  rw[setSV_none _ _ _ (by have:=consM_has l c.name;cases hf:findSV (consM l) (.str c.name) with
   |none=>rfl
   |some x=>rw[hf] at this;exact absurd this.symm hn)]
  rfl
theorem labM_snoc (l:List Lb) (c:Lb):labM (l++[c])=if (labF l c.con c.name).isSome then labM l else setSV (labM l) (.agg [.str c.con,.str c.name]) (.int .i64 c.place):=by
 have h:labM (l++[c])=labStep (labM l) c:=by simp[labM]
 rw[h,labStep,labM_has]
 split
 ·rfl
 ·rename_i hn
  rw[setSV_none _ _ _ (by have:=labM_has l c.con c.name;cases hf:findSV (labM l) (.agg [.str c.con,.str c.name]) with
   |none=>rfl
   |some x=>rw[hf] at this;exact absurd this.symm hn)]
theorem belowE_snoc (n:Nat):∀ (es:List (SV×SV)) (k v:SV),belowE n (es++[(k,v)])=(belowE n es&&(SV.under n k&&SV.under n v))
 |[],k,v=>by simp[belowE]
 |p::r,k,v=>by simp[belowE,belowE_snoc n r,Bool.and_assoc]
theorem consM_under (n:Nat) (l:List Cn):belowE n (consM l)=true:=by
 have:∀ (l:List Cn) (es:List (SV×SV)),belowE n es=true→belowE n (l.foldl conStep es)=true:=by
  intro l
  induction l with
  |nil=>exact fun es h=>h
  |cons c r ih=>
   intro es h
   refine ih _ ?_
   unfold conStep
   split
   ·exact h
   ·rw[belowE_snoc,h];rfl
 exact this l [] rfl
theorem labM_under (n:Nat) (l:List Lb):belowE n (labM l)=true:=by
 have:∀ (l:List Lb) (es:List (SV×SV)),belowE n es=true→belowE n (l.foldl labStep es)=true:=by
  intro l
  induction l with
  |nil=>exact fun es h=>h
  |cons c r ih=>
   intro es h
   refine ih _ ?_
   unfold labStep
   split
   ·exact h
   ·rw[belowE_snoc,h];rfl
 exact this l [] rfl
def tbB (t:Tb) (a:Nat):List Blk:=[.map none (consM t.cons),.map (some .pair) (labM t.labels),.cells 0 2 [.agg [.map a,.map (a+1)]]]
theorem tabled_ok (G:Gl) (hG:GClosed G) (t:Tb) (H:List Blk) (h1:t.cons.length<4294967296) (h2:t.labels.length<4294967296):
 ACall Tryd.prog G 16 [.agg [.list 4 (cnCells t.cons),.list 3 (lbCells t.labels)]] H (fun r H'=>H'=H++tbB t H.length∧r= .ptr (H.length+2) 0 0 0):=by
 obtain⟨cs,ls⟩:=t
 simp only at h1 h2
 have q1:=cnCells_len cs
 have q2:=lbCells_len ls
 have u1:SV.underL H.length (cnCells cs)=true:=cnCells_under _ _
 have u2:SV.underL H.length (lbCells ls)=true:=lbCells_under _ _
 simp only[tbB]
 have v1:=consM_under H.length cs
 have v2:=labM_under H.length ls
 refine ACall.of_go TB [] tabOK _ Tryd.func16 rfl (by decide) Tryd.ntmps16 (by simp) rfl (by simp only[initEnv,Nat.reduceAdd];rfl) fun C R' hR hC hcl hB=>?_;have X:=noX;have hC':=congrArg List.length hC
 have X:=And.intro X (And.intro q1 q2)
 (refine run ?_;with_reducible repeat' first|exact trivial|(apply Fork.mk<;>intro hb)|apply Two.mk)
 refine go_loop (fun i:Nat=>[(1,.ptr H.length 0 0 0),(3,.ptr (H.length+3) 0 0 0),(17,.list 4 (cnCells cs)),(18,.int .i64 cs.length),(19,.int .i64 i)]) (fun i=>H++[.cells 0 2 [.agg [.list 4 (cnCells cs),.list 3 (lbCells ls)]],.map none (consM (cs.take i)),.map (some .pair) [],.cells 0 2 [.agg [.map (H.length+1),.map (H.length+2)]]]) (fun i=>cs.length - i) (fun i=>i≤cs.length) 0 (Nat.zero_le _) ?_ ?_
 ·exact Wk.sub (by simp[subEnv,look])
 rintro K i hi hK
 rcases Nat.lt_or_ge i cs.length with hlt|hge
 ·have e1:(cnCells cs)[i]? =some (.agg [.str cs[i].name,.int .i64 cs[i].arity,.int .i64 cs[i].tag,.int .i64 cs[i].family]):=by rw[cnCells_get2,List.getElem?_eq_getElem hlt];rfl
  have hs:=consM_snoc (cs.take i) cs[i]
  rw[← List.take_succ_eq_append_getElem hlt] at hs
  have z1:=consM_zero (cs.take i) cs[i].name
  have z2:=consM_has (cs.take i) cs[i].name
  generalize cs[i]=c at*
  by_cases hf:(consF (cs.take i) c.name).isSome=true
  ·rw[if_pos hf] at hs
   rw[hf] at z2
   have X:=And.intro noX (And.intro q1 (And.intro e1 (And.intro z1 z2)))
   (refine run ?_;with_reducible repeat' first|exact trivial|(apply Fork.mk<;>intro hb)|apply Two.mk)
   refine hK _ _ (i+1) (by omega) (show i+1≤cs.length by omega) ?_
   rw[hs]
   have v1:=consM_under H.length (cs.take i);have v2:=labM_under H.length (ls.take i);have v3:=consM_under H.length cs;have v4:=labM_under H.length ls;have v5:=consM_under H.length (cs.take (i+1));have v6:=labM_under H.length (ls.take (i+1));exact wkS (n0:=H.length) [(H.length,0),(H.length+1,0),(H.length+2,0),(H.length+3,0)] hG hB hC' hcl
  ·rw[if_neg hf] at hs
   have hf':(consF (cs.take i) c.name).isSome=false:=by simpa using hf
   rw[hf'] at z2
   have X:=And.intro noX (And.intro q1 (And.intro e1 (And.intro z1 z2)))
   (refine run ?_;with_reducible repeat' first|exact trivial|(apply Fork.mk<;>intro hb)|apply Two.mk)
   refine hK _ _ (i+1) (by omega) (show i+1≤cs.length by omega) ?_
   rw[← hs]
   have v1:=consM_under H.length (cs.take i);have v2:=labM_under H.length (ls.take i);have v3:=consM_under H.length cs;have v4:=labM_under H.length ls;have v5:=consM_under H.length (cs.take (i+1));have v6:=labM_under H.length (ls.take (i+1));exact wkS (n0:=H.length) [(H.length,0),(H.length+1,0),(H.length+2,0),(H.length+3,0)] hG hB hC' hcl
 obtain rfl:i=cs.length:=by omega
 rw[List.take_length]
 clear hK
 have X:=And.intro noX (And.intro q2 (Int.lt_irrefl (cs.length:Int)))
 (refine run ?_;with_reducible repeat' first|exact trivial|(apply Fork.mk<;>intro hb)|apply Two.mk)
 refine go_loop (fun i:Nat=>[(1,.ptr H.length 0 0 0),(3,.ptr (H.length+3) 0 0 0),(44,.list 3 (lbCells ls)),(45,.int .i64 ls.length),(46,.int .i64 i)]) (fun i=>H++[.cells 0 2 [.agg [.list 4 (cnCells cs),.list 3 (lbCells ls)]],.map none (consM cs),.map (some .pair) (labM (ls.take i)),.cells 0 2 [.agg [.map (H.length+1),.map (H.length+2)]]]) (fun i=>ls.length - i) (fun i=>i≤ls.length) 0 (Nat.zero_le _) ?_ ?_
 ·exact Wk.sub (by simp[subEnv,look])
 rintro K i hi hK
 rcases Nat.lt_or_ge i ls.length with hlt|hge
 ·have e1:(lbCells ls)[i]? =some (.agg [.str ls[i].name,.str ls[i].con,.int .i64 ls[i].place]):=by rw[lbCells_get2,List.getElem?_eq_getElem hlt];rfl
  have hs:=labM_snoc (ls.take i) ls[i]
  rw[← List.take_succ_eq_append_getElem hlt] at hs
  have z1:=labM_zero (ls.take i) ls[i].con ls[i].name
  have z2:=labM_has (ls.take i) ls[i].con ls[i].name
  generalize ls[i]=c at*
  by_cases hf:(labF (ls.take i) c.con c.name).isSome=true
  ·rw[if_pos hf] at hs
   rw[hf] at z2
   have X:=And.intro noX (And.intro q2 (And.intro e1 (And.intro z1 z2)))
   (refine run ?_;with_reducible repeat' first|exact trivial|(apply Fork.mk<;>intro hb)|apply Two.mk)
   refine hK _ _ (i+1) (by omega) (show i+1≤ls.length by omega) ?_
   rw[hs]
   have v1:=consM_under H.length (cs.take i);have v2:=labM_under H.length (ls.take i);have v3:=consM_under H.length cs;have v4:=labM_under H.length ls;have v5:=consM_under H.length (cs.take (i+1));have v6:=labM_under H.length (ls.take (i+1));exact wkS (n0:=H.length) [(H.length,0),(H.length+1,0),(H.length+2,0),(H.length+3,0)] hG hB hC' hcl
  ·rw[if_neg hf] at hs
   have hf':(labF (ls.take i) c.con c.name).isSome=false:=by simpa using hf
   rw[hf'] at z2
   have X:=And.intro noX (And.intro q2 (And.intro e1 (And.intro z1 z2)))
   (refine run ?_;with_reducible repeat' first|exact trivial|(apply Fork.mk<;>intro hb)|apply Two.mk)
   refine hK _ _ (i+1) (by omega) (show i+1≤ls.length by omega) ?_
   rw[← hs]
   have v1:=consM_under H.length (cs.take i);have v2:=labM_under H.length (ls.take i);have v3:=consM_under H.length cs;have v4:=labM_under H.length ls;have v5:=consM_under H.length (cs.take (i+1));have v6:=labM_under H.length (ls.take (i+1));exact wkS (n0:=H.length) [(H.length,0),(H.length+1,0),(H.length+2,0),(H.length+3,0)] hG hB hC' hcl
 obtain rfl:i=ls.length:=by omega
 rw[List.take_length]
 clear hK
 have X:=And.intro noX (Int.lt_irrefl (ls.length:Int))
 (refine run ?_;with_reducible repeat' first|exact trivial|(apply Fork.mk<;>intro hb)|apply Two.mk)
 exact finK [(H.length+1,0),(H.length+2,0),(H.length+3,0)] (.ptr (H.length+2) 0 0 0) [.map none (consM cs),.map (some .pair) (labM ls),.cells 0 2 [.agg [.map H.length,.map (H.length+1)]]] hR hC' hcl ⟨rfl,rfl⟩
section
section
variable {P:Program} {G:Gl} {T:Tab} {own:List Nat} {nt B:Nat} {ρ:Option Nat} {C:Cx} {rs:List ResultVar} {R:SV→List Blk→Prop} {env env2:Env} {H H':List Blk} {k:List It}
variable {all r:List Oper} {ty d j dj:Nat} {op:Op} {pos:String} {after:Array Edge} {v:SV}
theorem RepE.length {c:Cx}:∀ {es:List (SV×SV)} {l:List MapEntry},RepE c es l→l.length=es.length
 |[],l,h=>by simp only[RepE] at h;subst h;rfl
 |(q,x)::es,l,h=>by
  simp only[RepE] at h
  obtain⟨e,es',_,_,h3,rfl⟩:=h
  simp[RepE.length h3]
structure MapHere (G:Gl) (id bm:Nat) (kd:Option MK):Prop where
 there:∃ C',G.base=some C'∧(∃ es0,C'.H[id]? =some (.map kd es0))∧C'.θ id=some (bm,0)
theorem MapHere.of {C':Cx} (hc:HeapOK C') {l:List (Nat×SV)} {id:Nat} {kd:Option MK} {es:List (SV×SV)} (h:C'.H[id]? =some (.map kd es)):∃ bm,MapHere ⟨l,some C'⟩ id bm kd:=by
 obtain⟨b,ents,clk,h1,_⟩:=hc.blk id _ h
 exact⟨b,⟨C',rfl,⟨es,h⟩,h1⟩⟩
end
end
section
section
variable {P:Program} {G:Gl} {T:Tab} {own:List Nat} {nt B:Nat} {ρ:Option Nat} {C:Cx} {rs:List ResultVar} {R:SV→List Blk→Prop} {env env2:Env} {H H2:List Blk} {k:List It}
theorem go_wkO {all l:List Oper} (env2:Env) (H2:List Blk) (hw:Wk G nt C ⟨env,H⟩ ⟨env2,H2⟩) (h:(Out P G T own nt ρ C rs R) (.ops all l::k) .normal env2 H2):(Out P G T own nt ρ C rs R) (.ops all l::k) .normal env H:=by
 intro hT i c a hf hc hi hg
 obtain⟨c',e1,e2,e3,e4⟩:=hw c a hc hi hg
 have:=h hT i c' a hf e1 e3 e4
 rw[e2] at this
 exact this
theorem go_wkC {x:Code} (env2:Env) (H2:List Blk) (hw:Wk G nt C ⟨env,H⟩ ⟨env2,H2⟩) (h:(Out P G T own nt ρ C rs R) (.code x::k) .normal env2 H2):(Out P G T own nt ρ C rs R) (.code x::k) .normal env H:=by
 intro c a hc hi hg
 obtain⟨c',e1,e2,e3,e4⟩:=hw c a hc hi hg
 have:=h c' a e1 e3 e4
 rw[e2] at this
 exact this
theorem Wk.trans {s s2 s3:St} (h1:Wk G nt C s s2) (h2:Wk G nt C s2 s3):Wk G nt C s s3:=by
 intro c a hc hi hg
 obtain⟨c',e1,e2,e3,e4⟩:=h1 c a hc hi hg
 obtain⟨c'',f1,f2,f3,f4⟩:=h2 c' a e1 e3 e4
 exact⟨c'',f1,f2.trans e2,f3,f4⟩
theorem wk_ghost {id g s i j:Nat} {vals fs:List SV} (sz:Nat) (hb:H[id]? =some (.cells g s vals)) (hk:vals[i]? =some (.agg fs)) (hj:fs[j]? =some .nil):
 Wk G nt C ⟨env,H⟩ ⟨env,H.set id (.cells g s (vals.set i (.agg (fs.set j (.sl H.length 0 0 0)))))++[.cells 0 sz []]⟩:=by
 intro c a hc hi hg
 have hc:c.H=H:=hc
 subst hc
 have hid:id<c.H.length:=(List.getElem?_eq_some_iff.1 hb).1
 obtain⟨g1,g2⟩:=Cx.fresh hi.heap (w':=c.w) c.w.heap.size (Nat.le_refl _) 0 none (.inl rfl) (.cells 0 sz []) (fun _ _=>rfl) (Nat.le_refl _) rfl rfl rfl (fun _=> .inl ⟨by simp,rfl⟩)
 generalize hc1:(⟨fun i=>if i=c.H.length then none else c.θ i,c.H++[.cells 0 sz []],c.w⟩:Cx)=c1 at g1 g2
 have hH:c1.H=c.H++[.cells 0 sz []]:=by rw[← hc1]
 have hw:c1.w=c.w:=by rw[← hc1]
 have hb1:c1.H[id]? =some (.cells g s vals):=by rw[hH,List.getElem?_append_left hid];exact hb
 obtain⟨t1,t2⟩:=Cx.turn g2 (w':=c1.w) hb1 rfl (B':= .cells g s (vals.set i (.agg (fs.set j (.sl c.H.length 0 0 0))))) (c1.θ id)
  ⟨g,_,rfl,Nat.le_refl _,fun _=>⟨rfl,by simp⟩,fun b' o' h'=> .inr ⟨o',h'⟩⟩ (fun _ _ _=>rfl) (Nat.le_refl _) rfl rfl rfl (fun b cs T fr h=>⟨cs,fr,h,rfl⟩)
  (fun hg=>by
   rcases g2.blk id _ hb1 with⟨h2,h3⟩|⟨b,o,cs,Ty,fr,vs,h2,h3,h4,h5,h6,h7⟩
   ·rw[h3] at hk;simp at hk
   ·refine .inr ⟨b,o,cs,Ty,fr,vs,by simp[h2],h3,h4,?_,h6,h7⟩
    obtain⟨u,u1,u2⟩:=h5.get hk
    have u0:=u2
    simp only[Rep] at u2
    obtain⟨ws,w1,w2,w3⟩:=u2
    obtain⟨z,z1,z2⟩:=w1.get hj
    simp only[Rep] at z2
    have h8:=h5.grow hg
    have h9:=w1.grow hg
    refine set_same u1 ▸ h8.set i (u:=u) ?_
    simp only[Rep]
    refine⟨ws,?_,w2,w3⟩
    refine set_same z1 ▸ h9.set j (u:=z) ?_
    simp only[Rep]
    have hne:¬ c.H.length=id:=by omega
    refine⟨by rw[z2];rfl,?_⟩
    have hn:(c1.H.set id (.cells g s (vals.set i (.agg (fs.set j (.sl c.H.length 0 0 0))))))[c.H.length]? =some (.cells 0 sz []):=by
     rw[List.getElem?_set_ne (fun e=>hne e.symm),hH];simp
    rw[hn]
    exact .inr ⟨rfl,Nat.le_refl _,none,0,z2,Nat.le_refl _,Nat.zero_le _,.inl ⟨rfl,.inr (Nat.le_refl _)⟩⟩)
 refine⟨{ θ:=fun i=>if i=id then c1.θ id else c1.θ i,H:=c1.H.set id (.cells g s (vals.set i (.agg (fs.set j (.sl c.H.length 0 0 0))))),w:=c1.w},?_,hw,⟨t2,hi.glob.grow (g1.trans t1),hi.size,fun t' x hx=>(hi.env t' x hx).grow (g1.trans t1),hi.defs.grow (g1.trans t1)⟩,(hg.trans g1).trans t1⟩
 show c1.H.set id _=_
 rw[hH,List.set_append_left _ _ hid]
theorem wk_ghostC {id g s i:Nat} {vals:List SV} (sz:Nat) (hb:H[id]? =some (.cells g s vals)) (hk:vals[i]? =some .nil):
 Wk G nt C ⟨env,H⟩ ⟨env,H.set id (.cells g s (vals.set i (.sl H.length 0 0 0)))++[.cells 0 sz []]⟩:=by
 intro c a hc hi hg
 have hc:c.H=H:=hc
 subst hc
 have hid:id<c.H.length:=(List.getElem?_eq_some_iff.1 hb).1
 obtain⟨g1,g2⟩:=Cx.fresh hi.heap (w':=c.w) c.w.heap.size (Nat.le_refl _) 0 none (.inl rfl) (.cells 0 sz []) (fun _ _=>rfl) (Nat.le_refl _) rfl rfl rfl (fun _=> .inl ⟨by simp,rfl⟩)
 generalize hc1:(⟨fun i=>if i=c.H.length then none else c.θ i,c.H++[.cells 0 sz []],c.w⟩:Cx)=c1 at g1 g2
 have hH:c1.H=c.H++[.cells 0 sz []]:=by rw[← hc1]
 have hw:c1.w=c.w:=by rw[← hc1]
 have hb1:c1.H[id]? =some (.cells g s vals):=by rw[hH,List.getElem?_append_left hid];exact hb
 obtain⟨t1,t2⟩:=Cx.turn g2 (w':=c1.w) hb1 rfl (B':= .cells g s (vals.set i (.sl c.H.length 0 0 0))) (c1.θ id)
  ⟨g,_,rfl,Nat.le_refl _,fun _=>⟨rfl,by simp⟩,fun b' o' h'=> .inr ⟨o',h'⟩⟩ (fun _ _ _=>rfl) (Nat.le_refl _) rfl rfl rfl (fun b cs T fr h=>⟨cs,fr,h,rfl⟩)
  (fun hg=>by
   rcases g2.blk id _ hb1 with⟨h2,h3⟩|⟨b,o,cs,Ty,fr,vs,h2,h3,h4,h5,h6,h7⟩
   ·rw[h3] at hk;simp at hk
   ·refine .inr ⟨b,o,cs,Ty,fr,vs,by simp[h2],h3,h4,?_,h6,h7⟩
    obtain⟨u,u1,u2⟩:=h5.get hk
    simp only[Rep] at u2
    have h8:=h5.grow hg
    refine set_same u1 ▸ h8.set i (u:=u) ?_
    simp only[Rep]
    have hne:¬ c.H.length=id:=by omega
    refine⟨by rw[u2];rfl,?_⟩
    have hn:(c1.H.set id (.cells g s (vals.set i (.sl c.H.length 0 0 0))))[c.H.length]? =some (.cells 0 sz []):=by
     rw[List.getElem?_set_ne (fun e=>hne e.symm),hH];simp
    rw[hn]
    exact .inr ⟨rfl,Nat.le_refl _,none,0,u2,Nat.le_refl _,Nat.zero_le _,.inl ⟨rfl,.inr (Nat.le_refl _)⟩⟩)
 refine⟨{ θ:=fun i=>if i=id then c1.θ id else c1.θ i,H:=c1.H.set id (.cells g s (vals.set i (.sl c.H.length 0 0 0))),w:=c1.w},?_,hw,⟨t2,hi.glob.grow (g1.trans t1),hi.size,fun t' x hx=>(hi.env t' x hx).grow (g1.trans t1),hi.defs.grow (g1.trans t1)⟩,(hg.trans g1).trans t1⟩
 show c1.H.set id _=_
 rw[hH,List.set_append_left _ _ hid]
theorem wk_ghostE {id g s i j:Nat} {vals fs:List SV} (sz:Nat) (hb:H[id]? =some (.cells g s vals)) (hk:vals[i]? =some (.agg fs)) (hj:fs[j]? =some .nil) (he:H.set id (.cells g s (vals.set i (.agg (fs.set j (.sl H.length 0 0 0)))))++[.cells 0 sz []]=H2) (hs:subEnv env2 env):Wk G nt C ⟨env,H⟩ ⟨env2,H2⟩:=by
 subst he
 exact Wk.trans (wk_ghost sz hb hk hj) (Wk.sub hs)
end
end
theorem get_app_left {H L:List Blk} {i:Nat} {b:Blk} (h:H[i]? =some b):(H++L)[i]? =some b:=by
 rw[List.getElem?_append_left (List.getElem?_eq_some_iff.1 h).1];exact h
theorem get_set_ne {H:List Blk} {i j:Nat} {x b:Blk} (h:H[i]? =some b) (hne:j≠i):(H.set j x)[i]? =some b:=by
 rw[List.getElem?_set_ne hne];exact h
structure TbAt (H:List Blk) (t:Tb) (tb ca la:Nat):Prop where
 h:H[tb]? =some (.cells 0 2 [.agg [.map ca,.map la]])
 c:H[ca]? =some (.map none (consM t.cons))
 l:H[la]? =some (.map (some .pair) (labM t.labels))
theorem TbAt.app {H:List Blk} {t:Tb} {tb ca la:Nat} (h:TbAt H t tb ca la) (L:List Blk):TbAt (H++L) t tb ca la:=
 ⟨get_app_left h.h,get_app_left h.c,get_app_left h.l⟩
theorem TbAt.X {H:List Blk} {t:Tb} {tb ca la:Nat} (h:TbAt H t tb ca la):
 ((∀ L,(H++L)[tb]? =some (.cells 0 2 [.agg [.map ca,.map la]]))∧(∀ L,(H++L)[ca]? =some (.map none (consM t.cons)))∧(∀ L,(H++L)[la]? =some (.map (some .pair) (labM t.labels))))∧
 (H[tb]? =some (.cells 0 2 [.agg [.map ca,.map la]])∧H[ca]? =some (.map none (consM t.cons))∧H[la]? =some (.map (some .pair) (labM t.labels))):=
 ⟨⟨fun L=>(h.app L).h,fun L=>(h.app L).c,fun L=>(h.app L).l⟩,h.h,h.c,h.l⟩
def PV (p:SV):Prop:=p= .nil∨∃ l,p= .list 7 (ptCells l)
theorem PV.under {p:SV} (h:PV p) (n:Nat):SV.under n p=true:=by
 rcases h with rfl|⟨l,rfl⟩
 ·rfl
 ·simp[SV.under,ptCells_under]
def ShR (o:Option Sh) (r:SV):Prop:=∃ (c:Cn) (p:SV) (b:Bool),PV p∧r= .tuple [.agg [.str c.name,.int .i64 c.arity,.int .i64 c.tag,.int .i64 c.family,p],.bool b]∧
 (match o with
  |some s=>b=true∧c=s.con∧p= .list 7 (ptCells s.parts)
  |none=>b=false)
theorem plainF_eq (cs:List Cn) (name:Str) (ps:List Nd):plainF cs name ps=if (consF cs name).isSome=true∧(getC cs name).arity=ps.length then some ⟨getC cs name,numL 0 ps⟩ else none:=by
 unfold plainF getC
 cases consF cs name with
 |none=>rfl
 |some c=>simp
theorem shR_mk (c:Cn) (ps:List Pt) (b:Bool) (n:Int):ShR (if b=true∧c.arity=n then some ⟨c,ps⟩ else none) (.tuple [.agg [.str c.name,.int .i64 c.arity,.int .i64 c.tag,.int .i64 c.family,.list 7 (ptCells ps)],.bool (b&&decide (c.arity=n))]):=by
 refine⟨c,_,_,.inr ⟨ps,rfl⟩,rfl,?_⟩
 by_cases h:b=true∧c.arity=n
 ·rw[if_pos h];simp only[h,decide_true,Bool.and_self,and_self]
 ·rw[if_neg h]
  show(b&&decide (c.arity=n))=false
  rw[← Bool.not_eq_true,Bool.and_eq_true,decide_eq_true_eq];exact h
theorem numL_take:∀ (l:List Nd) (i k:Nat),numL i (l.take k)=(numL i l).take k
 |[],i,k=>by simp[numL]
 |p::r,i,0=>by simp[numL]
 |p::r,i,k+1=>by simp[numL,numL_take r (i+1) k]
theorem plain_nil (G:Gl) (hG:GClosed G) (t:Tb) (tb ca la:Nat) (name:Str) (H:List Blk) (hT:TbAt H t tb ca la):
 ACall Tryd.prog G 52 [.ptr tb 0 0 0,.str name,.nil] H (fun r H'=>H'=H∧ShR (plainF t.cons name []) r):=by
 have z1:=consM_zero t.cons name
 have z2:=consM_has t.cons name
 rw[plainF_eq]
 generalize getC t.cons name=c at*
 generalize (consF t.cons name).isSome=b at*
 refine ACall.of_go TB [] tabOK _ Tryd.func52 rfl (by decide) Tryd.ntmps52 (by simp) rfl (by simp only[initEnv,Nat.reduceAdd];rfl) fun C R' hR hC hcl hB=>?_;have X:=noX;have hC':=congrArg List.length hC
 have X:=And.intro X (And.intro hT.X (And.intro z1 z2))
 (refine run ?_;with_reducible repeat' first|exact trivial|(apply Fork.mk<;>intro hb)|apply Two.mk)
 refine go_loop (fun _:Unit=>[(2,.nil),(6,.ptr H.length 0 0 0),(8,.ptr (H.length+1) 0 0 0),(9,.bool b),(10,.ptr (H.length+2) 0 0 0),(25,.int .i64 0),(26,.int .i64 0)]) (fun _=>H++[.cells 0 5 [.agg [.str [],.int .i64 0,.int .i64 0,.int .i64 0,.nil]],.cells 0 4 [.agg [.str c.name,.int .i64 c.arity,.int .i64 c.tag,.int .i64 c.family]],.cells 0 5 [.agg [.str c.name,.int .i64 c.arity,.int .i64 c.tag,.int .i64 c.family,.nil]]]) (fun _=>0) (fun _=>True) () trivial ?_ ?_
 ·exact Wk.sub (by simp[subEnv,look])
 rintro K _ _ hK
 clear hK
 have X:=And.intro noX (Int.lt_irrefl (0:Int))
 (refine run ?_;with_reducible repeat' first|exact trivial|(apply Fork.mk<;>intro hb)|apply Two.mk)
 exact finS (n0:=H.length) (y:= .tuple [.agg [.str c.name,.int .i64 c.arity,.int .i64 c.tag,.int .i64 c.family,.list 7 (ptCells (numL 0 []))],.bool (b&&decide (c.arity=((0:Nat):Int)))]) hR hC' hcl (.tuple _ _ (.cons _ _ _ _ (.agg _ _ frzLS) (.cons _ _ _ _ (.same _ rfl) .nil))) ⟨rfl,shR_mk c _ b _⟩
theorem plain_ok (G:Gl) (hG:GClosed G) (t:Tb) (tb ca la:Nat) (name:Str) (l:List Nd) (hl:l.length<4294967296) (H:List Blk) (hT:TbAt H t tb ca la):
 ACall Tryd.prog G 52 [.ptr tb 0 0 0,.str name,.list 6 (ndCells l)] H (fun r H'=>H'=H∧ShR (plainF t.cons name l) r):=by
 have z1:=consM_zero t.cons name
 have z2:=consM_has t.cons name
 rw[plainF_eq]
 generalize getC t.cons name=c at*
 generalize (consF t.cons name).isSome=b at*
 have q1:=ndCells_len l
 have q2:=fun k=>ptCells_len (numL 0 (l.take k))
 have u1:SV.underL H.length (ndCells l)=true:=ndCells_under _ _
 refine ACall.of_go TB [] tabOK _ Tryd.func52 rfl (by decide) Tryd.ntmps52 (by simp) rfl (by simp only[initEnv,Nat.reduceAdd];rfl) fun C R' hR hC hcl hB=>?_;have X:=noX;have hC':=congrArg List.length hC
 have X:=And.intro X (And.intro hT.X (And.intro z1 (And.intro z2 q1)))
 (refine run ?_;with_reducible repeat' first|exact trivial|(apply Fork.mk<;>intro hb)|apply Two.mk)
 refine go_loop (fun i:Nat=>[(2,.list 6 (ndCells l)),(6,.ptr H.length 0 0 0),(8,.ptr (H.length+1) 0 0 0),(9,.bool b),(10,.ptr (H.length+2) 0 0 0),(24,.list 6 (ndCells l)),(25,.int .i64 l.length),(26,.int .i64 i)]) (fun i=>H++[.cells 0 5 [.agg [.str [],.int .i64 0,.int .i64 0,.int .i64 0,.nil]],.cells 0 4 [.agg [.str c.name,.int .i64 c.arity,.int .i64 c.tag,.int .i64 c.family]],.cells 0 5 [.agg [.str c.name,.int .i64 c.arity,.int .i64 c.tag,.int .i64 c.family,.sl (H.length+3) 0 0 i]],.cells 0 7 (ptCells (numL 0 (l.take i)))]) (fun i=>l.length - i) (fun i=>i≤l.length) 0 (Nat.zero_le _) ?_ ?_
 ·exact wk_ghostE (id:=H.length+2) (i:=0) (j:=4) 7 ((get_app ..).trans rfl) rfl rfl (by simp[ptCells,numL]) (by simp[subEnv,look])
 rintro K i hi hK
 rcases Nat.lt_or_ge i l.length with hlt|hge
 ·have e1:(ndCells l)[i]? =some (.agg l[i].cells):=by rw[ndCells_get2,List.getElem?_eq_getElem hlt];rfl
  have e2:l[i].cells.length=6:=l[i].cells_len
  have e3:l[i].cells.take 6=l[i].cells:=l[i].cells_take
  have hs:numL 0 (l.take (i+1))=numL 0 (l.take i)++[⟨(i:Int),l[i]⟩]:=by
   rw[numL_take,numL_take]
   have h1:i<(numL 0 l).length:=by rw[numL_len];exact hlt
   rw[List.take_succ_eq_append_getElem h1]
   congr 2
   have:=numL_get l 0 i
   rw[List.getElem?_eq_getElem h1,List.getElem?_eq_getElem hlt] at this
   simpa using Option.some.inj this
  have e4:(ptCells (numL 0 (l.take i))).length=i:=by rw[ptCells_len,numL_len,List.length_take];omega
  have u2:SV.underL H.length (ptCells (numL 0 (l.take i)))=true:=ptCells_under _ _
  have u3:SV.underL H.length l[i].cells=true:=l[i].cells_under _
  have hsn:=ptCells_snoc (numL 0 (l.take i)) ⟨(i:Int),l[i]⟩
  rw[← hs] at hsn
  simp only at hsn
  generalize l[i]=x at*
  generalize ptCells (numL 0 (l.take i))=P at*
  have X:=And.intro noX (And.intro q1 (And.intro e1 (And.intro e2 (And.intro e3 e4))))
  (refine run ?_;with_reducible repeat' first|exact trivial|(apply Fork.mk<;>intro hb)|apply Two.mk)
  refine hK _ _ (i+1) (by omega) (show i+1≤l.length by omega) ?_
  rw[hsn]
  simp only[List.append_nil]
  have u4:SV.underL H.length (P++[SV.agg (SV.int IntKind.i64 (i:Int)::x.cells)])=true:=by simp[SV.underL_append,SV.underL,SV.under,u2,u3]
  exact wkS (n0:=H.length) [(H.length,0),(H.length+1,0),(H.length+2,0),(H.length+3,0)] hG hB hC' hcl
 obtain rfl:i=l.length:=by omega
 rw[List.take_length]
 clear hK
 have X:=And.intro noX (And.intro q1 (Int.lt_irrefl (l.length:Int)))
 (refine run ?_;with_reducible repeat' first|exact trivial|(apply Fork.mk<;>intro hb)|apply Two.mk)
 have u5:SV.underL H.length (ptCells (numL 0 l))=true:=ptCells_under _ _
 have u6:List.take l.length (ptCells (numL 0 l))=ptCells (numL 0 l):=List.take_of_length_le (by rw[ptCells_len,numL_len];exact Nat.le_refl _)
 exact finS (n0:=H.length) (y:= .tuple [.agg [.str c.name,.int .i64 c.arity,.int .i64 c.tag,.int .i64 c.family,.list 7 (ptCells (numL 0 l))],.bool (b&&decide (c.arity=(l.length:Int)))]) hR hC' hcl (.tuple _ _ (.cons _ _ _ _ (.agg _ _ (.cons _ _ _ _ (.same _ rfl) (.cons _ _ _ _ (.same _ rfl) (.cons _ _ _ _ (.same _ rfl) (.cons _ _ _ _ (.same _ rfl) (.cons _ _ _ _ (Frz.sf (vals:=ptCells (numL 0 l)) (ys:=ptCells (numL 0 l)) (by simp) (by omega) (by simp) (by rw[List.drop_zero];exact u6) u5) .nil)))))) (.cons _ _ _ _ (.same _ rfl) .nil))) ⟨rfl,shR_mk c _ b _⟩
theorem ndCells_takeAll (l:List Nd):List.take l.length (ndCells l)=ndCells l:=List.take_of_length_le (by simp[ndCells_len])
attribute [go_sem] ndCells_takeAll
theorem list_ok (G:Gl) (hG:GClosed G) (t:Tb) (tb ca la:Nat) (l:List Nd) (hl:l.length<4294967296) (H:List Blk) (hT:TbAt H t tb ca la):
 ACall Tryd.prog G 53 [.ptr tb 0 0 0,.list 6 (ndCells l)] H (fun r H'=>H'=H∧ShR (listF t.cons l) r):=by
 cases l with
 |nil=>
  have h0:=plain_nil G hG t tb ca la emptyN _ (hT.app [.cells 0 5 [.agg [.str [],.int .i64 0,.int .i64 0,.int .i64 0,.nil]]])
  simp only[emptyN] at h0
  refine ACall.of_go TB [] tabOK _ Tryd.func53 rfl (by decide) Tryd.ntmps53 (by simp) rfl (by simp only[initEnv,Nat.reduceAdd];rfl) fun C R' hR hC hcl hB=>?_;have X:=noX;have hC':=congrArg List.length hC
  simp only[ndCells]
  (refine run ?_;with_reducible repeat' first|exact trivial|(apply Fork.mk<;>intro hb)|apply Two.mk)
  refine callS h0 ?_
  rintro r H' ⟨rfl,c,p,b,hp,rfl,ho⟩
  have hu:=hp.under H.length
  (refine run ?_;with_reducible repeat' first|exact trivial|(apply Fork.mk<;>intro hb)|apply Two.mk)
  exact finS (n0:=H.length) hR hC' hcl (.same _ (by simp[resSV,SV.under,SV.underL,hu])) ⟨rfl,c,p,b,hp,rfl,ho⟩
 |cons x r=>
  have h0:=plain_ok G hG t tb ca la consN [x,listN r] (by simp) _ (hT.app [.cells 0 5 [.agg [.str [],.int .i64 0,.int .i64 0,.int .i64 0,.nil]]])
  simp only[consN,ndCells,listN,Nd.cells] at h0
  have e2:x.cells.length=6:=x.cells_len
  have e3:x.cells.take 6=x.cells:=x.cells_take
  have e4:List.take (r.length+1 - 1) (ndCells r)=ndCells r:=ndCells_takeAll r
  have u3:SV.underL H.length x.cells=true:=x.cells_under _
  have u4:SV.underL H.length (ndCells r)=true:=ndCells_under _ _
  simp only[List.length_cons] at hl
  refine ACall.of_go TB [] tabOK _ Tryd.func53 rfl (by decide) Tryd.ntmps53 (by simp) rfl (by simp only[initEnv,Nat.reduceAdd];rfl) fun C R' hR hC hcl hB=>?_;have X:=noX;have hC':=congrArg List.length hC
  simp only[ndCells]
  have X:=And.intro X (And.intro e2 (And.intro e3 e4))
  (refine run ?_;with_reducible repeat' first|exact trivial|(apply Fork.mk<;>intro hb)|apply Two.mk)
  refine xcallS h0 ?_
  rintro r H' ⟨rfl,c,p,b,hp,rfl,ho⟩
  have hu:=hp.under H.length
  (refine run ?_;with_reducible repeat' first|exact trivial|(apply Fork.mk<;>intro hb)|apply Two.mk)
  exact finS (n0:=H.length) hR hC' hcl (.same _ (by simp[resSV,SV.under,SV.underL,hu])) ⟨rfl,c,p,b,hp,rfl,ho⟩
theorem wrap64 (n:Int):IntKind.i64.wrap n=(n+9223372036854775808) % 18446744073709551616 - 9223372036854775808:=by
 simp only[IntKind.wrap,IntKind.bits,IntKind.signed]
 simp
 omega
theorem wrapIn {n:Int} (h1:0≤n) (h2:n<9223372036854775808):IntKind.i64.wrap n=n:=by rw[wrap64];omega
theorem shape_46 (G:Gl) (hG:GClosed G) (t:Tb) (tb ca la:Nat) (nm:Str) (n a b:Int) (l:List Nd) (hl:l.length<4294967296) (H:List Blk) (hT:TbAt H t tb ca la):
 ACall Tryd.prog G 35 [.ptr tb 0 0 0,.agg (Nd.mk 46 nm n a b l).cells] H (fun r H'=>H'=H∧ShR (plainF t.cons nm l) r):=by
 have h0:=plain_ok G hG t tb ca la nm l hl _ (hT.app [.cells 0 6 [.agg [.int .i64 46,.str nm,.int .i64 n,.int .i64 a,.int .i64 b,.list 6 (ndCells l)]],.cells 0 5 [.agg [.str [],.int .i64 0,.int .i64 0,.int .i64 0,.nil]]])
 simp only[Nd.cells]
 have u1:SV.underL H.length (ndCells l)=true:=ndCells_under _ _
 have htb:tb<H.length:=(List.getElem?_eq_some_iff.1 hT.h).1
 refine ACall.of_go TB [] tabOK _ Tryd.func35 rfl (by decide) Tryd.ntmps35 (by simp) rfl (by simp only[initEnv,Nat.reduceAdd];rfl) fun C R' hR hC hcl hB=>?_;have X:=noX;have hC':=congrArg List.length hC
 (refine run ?_;with_reducible repeat' first|exact trivial|(apply Fork.mk<;>intro hb)|apply Two.mk)
 refine callS h0 ?_
 rintro r H' ⟨rfl,c,p,bb,hp,rfl,ho⟩
 have hu:=hp.under H.length
 (refine run ?_;with_reducible repeat' first|exact trivial|(apply Fork.mk<;>intro hb)|apply Two.mk)
 exact finS (n0:=H.length) hR hC' hcl (.same _ (by simp[resSV,SV.under,SV.underL,hu])) ⟨rfl,c,p,bb,hp,rfl,ho⟩
theorem shape_48 (G:Gl) (hG:GClosed G) (t:Tb) (tb ca la:Nat) (nm:Str) (n a b:Int) (l:List Nd) (hl:l.length<4294967296) (H:List Blk) (hT:TbAt H t tb ca la):
 ACall Tryd.prog G 35 [.ptr tb 0 0 0,.agg (Nd.mk 48 nm n a b l).cells] H (fun r H'=>H'=H∧ShR (if l.length=2 then plainF t.cons pairN l else if l.length=3 then plainF t.cons tripleN l else none) r):=by
 have h0:=plain_ok G hG t tb ca la pairN l hl _ (hT.app [.cells 0 6 [.agg [.int .i64 48,.str nm,.int .i64 n,.int .i64 a,.int .i64 b,.list 6 (ndCells l)]],.cells 0 5 [.agg [.str [],.int .i64 0,.int .i64 0,.int .i64 0,.nil]]])
 have h1:=plain_ok G hG t tb ca la tripleN l hl _ (hT.app [.cells 0 6 [.agg [.int .i64 48,.str nm,.int .i64 n,.int .i64 a,.int .i64 b,.list 6 (ndCells l)]],.cells 0 5 [.agg [.str [],.int .i64 0,.int .i64 0,.int .i64 0,.nil]]])
 simp only[Nd.cells]
 have u1:SV.underL H.length (ndCells l)=true:=ndCells_under _ _
 have htb:tb<H.length:=(List.getElem?_eq_some_iff.1 hT.h).1
 by_cases h2:l.length=2
 ·have h2':(l.length:Int)=2:=by omega
  rw[if_pos h2]
  simp only[pairN] at h0
  refine ACall.of_go TB [] tabOK _ Tryd.func35 rfl (by decide) Tryd.ntmps35 (by simp) rfl (by simp only[initEnv,Nat.reduceAdd];rfl) fun C R' hR hC hcl hB=>?_;have X:=noX;have hC':=congrArg List.length hC
  have X:=And.intro X h2'
  (refine run ?_;with_reducible repeat' first|exact trivial|(apply Fork.mk<;>intro hb)|apply Two.mk)
  refine callS h0 ?_
  rintro r H' ⟨rfl,c,p,bb,hp,rfl,ho⟩
  have hu:=hp.under H.length
  (refine run ?_;with_reducible repeat' first|exact trivial|(apply Fork.mk<;>intro hb)|apply Two.mk)
  exact finS (n0:=H.length) hR hC' hcl (.same _ (by simp[resSV,SV.under,SV.underL,hu])) ⟨rfl,c,p,bb,hp,rfl,ho⟩
 ·have h2':¬ (l.length:Int)=2:=by omega
  rw[if_neg h2]
  by_cases h3:l.length=3
  ·have h3':(l.length:Int)=3:=by omega
   rw[if_pos h3]
   simp only[tripleN] at h1
   refine ACall.of_go TB [] tabOK _ Tryd.func35 rfl (by decide) Tryd.ntmps35 (by simp) rfl (by simp only[initEnv,Nat.reduceAdd];rfl) fun C R' hR hC hcl hB=>?_;have X:=noX;have hC':=congrArg List.length hC
   have X:=And.intro X h3'
   (refine run ?_;with_reducible repeat' first|exact trivial|(apply Fork.mk<;>intro hb)|apply Two.mk)
   refine callS h1 ?_
   rintro r H' ⟨rfl,c,p,bb,hp,rfl,ho⟩
   have hu:=hp.under H.length
   (refine run ?_;with_reducible repeat' first|exact trivial|(apply Fork.mk<;>intro hb)|apply Two.mk)
   exact finS (n0:=H.length) hR hC' hcl (.same _ (by simp[resSV,SV.under,SV.underL,hu])) ⟨rfl,c,p,bb,hp,rfl,ho⟩
  ·have h3':¬ (l.length:Int)=3:=by omega
   rw[if_neg h3]
   refine ACall.of_go TB [] tabOK _ Tryd.func35 rfl (by decide) Tryd.ntmps35 (by simp) rfl (by simp only[initEnv,Nat.reduceAdd];rfl) fun C R' hR hC hcl hB=>?_;have X:=noX;have hC':=congrArg List.length hC
   have X:=And.intro X (And.intro h2' h3')
   (refine run ?_;with_reducible repeat' first|exact trivial|(apply Fork.mk<;>intro hb)|apply Two.mk)
   exact finS (n0:=H.length) hR hC' hcl (.same _ rfl) ⟨rfl,⟨[],0,0,0⟩,.nil,false,.inl rfl,rfl,rfl⟩
theorem shape_49 (G:Gl) (hG:GClosed G) (t:Tb) (tb ca la:Nat) (nm:Str) (n a b:Int) (l:List Nd) (hl:l.length<4294967296) (H:List Blk) (hT:TbAt H t tb ca la):
 ACall Tryd.prog G 35 [.ptr tb 0 0 0,.agg (Nd.mk 49 nm n a b l).cells] H (fun r H'=>H'=H∧ShR (listF t.cons l) r):=by
 have h0:=list_ok G hG t tb ca la l hl _ (hT.app [.cells 0 6 [.agg [.int .i64 49,.str nm,.int .i64 n,.int .i64 a,.int .i64 b,.list 6 (ndCells l)]],.cells 0 5 [.agg [.str [],.int .i64 0,.int .i64 0,.int .i64 0,.nil]]])
 simp only[Nd.cells]
 have u1:SV.underL H.length (ndCells l)=true:=ndCells_under _ _
 have htb:tb<H.length:=(List.getElem?_eq_some_iff.1 hT.h).1
 refine ACall.of_go TB [] tabOK _ Tryd.func35 rfl (by decide) Tryd.ntmps35 (by simp) rfl (by simp only[initEnv,Nat.reduceAdd];rfl) fun C R' hR hC hcl hB=>?_;have X:=noX;have hC':=congrArg List.length hC
 (refine run ?_;with_reducible repeat' first|exact trivial|(apply Fork.mk<;>intro hb)|apply Two.mk)
 refine callS h0 ?_
 rintro r H' ⟨rfl,c,p,bb,hp,rfl,ho⟩
 have hu:=hp.under H.length
 (refine run ?_;with_reducible repeat' first|exact trivial|(apply Fork.mk<;>intro hb)|apply Two.mk)
 exact finS (n0:=H.length) hR hC' hcl (.same _ (by simp[resSV,SV.under,SV.underL,hu])) ⟨rfl,c,p,bb,hp,rfl,ho⟩
theorem shape_x (G:Gl) (hG:GClosed G) (t:Tb) (tb ca la:Nat) (k:Int) (nm:Str) (n a b:Int) (l:List Nd) (hl:l.length<4294967296) (H:List Blk) (hT:TbAt H t tb ca la)
 (h46:¬ k=46) (h48:¬ k=48) (h49:¬ k=49) (h45:¬ k=45) (h51:¬ k=51):
 ACall Tryd.prog G 35 [.ptr tb 0 0 0,.agg (Nd.mk k nm n a b l).cells] H (fun r H'=>H'=H∧ShR none r):=by
 simp only[Nd.cells]
 have u1:SV.underL H.length (ndCells l)=true:=ndCells_under _ _
 have htb:tb<H.length:=(List.getElem?_eq_some_iff.1 hT.h).1
 refine ACall.of_go TB [] tabOK _ Tryd.func35 rfl (by decide) Tryd.ntmps35 (by simp) rfl (by simp only[initEnv,Nat.reduceAdd];rfl) fun C R' hR hC hcl hB=>?_;have X:=noX;have hC':=congrArg List.length hC
 have X:=And.intro X (And.intro h46 (And.intro h48 (And.intro h49 (And.intro h45 h51))))
 (refine run ?_;with_reducible repeat' first|exact trivial|(apply Fork.mk<;>intro hb)|apply Two.mk)
 exact finS (n0:=H.length) hR hC' hcl (.same _ rfl) ⟨rfl,⟨[],0,0,0⟩,.nil,false,.inl rfl,rfl,rfl⟩
theorem shR_if {o:Option Sh} {c:Cn} {p:SV} {b:Bool} (q:Prop) [Decidable q] (h:match o with|some s=>b=true∧c=s.con∧p= .list 7 (ptCells s.parts)|none=>b=false):
 match (if q then o else none) with|some s=>(b&&decide q)=true∧c=s.con∧p= .list 7 (ptCells s.parts)|none=>(b&&decide q)=false:=by
 by_cases hq:q
 ·rw[if_pos hq,decide_eq_true hq,Bool.and_true];exact h
 ·rw[if_neg hq,decide_eq_false hq,Bool.and_false]
theorem shape_45 (G:Gl) (hG:GClosed G) (t:Tb) (tb ca la:Nat) (nm:Str) (n a b:Int) (l:List Nd) (hn:nm.length<4294967296) (hl:l.length<4294967296) (H:List Blk) (hT:TbAt H t tb ca la):
 ACall Tryd.prog G 35 [.ptr tb 0 0 0,.agg (Nd.mk 45 nm n a b l).cells] H (fun r H'=>H'=H∧ShR (if l.length=0 then listF t.cons (nm.map byteN) else none) r):=by
 have h0:=list_ok G hG t tb ca la (nm.map byteN) (by simpa using hn) _ (hT.app [.cells 0 6 [.agg [.int .i64 45,.str nm,.int .i64 n,.int .i64 a,.int .i64 b,.list 6 (ndCells l)]],.cells 0 5 [.agg [.str [],.int .i64 0,.int .i64 0,.int .i64 0,.nil]]])
 simp only[Nd.cells]
 have u1:SV.underL H.length (ndCells l)=true:=ndCells_under _ _
 have htb:tb<H.length:=(List.getElem?_eq_some_iff.1 hT.h).1
 refine ACall.of_go TB [] tabOK _ Tryd.func35 rfl (by decide) Tryd.ntmps35 (by simp) rfl (by simp only[initEnv,Nat.reduceAdd];rfl) fun C R' hR hC hcl hB=>?_;have X:=noX;have hC':=congrArg List.length hC
 (refine run ?_;with_reducible repeat' first|exact trivial|(apply Fork.mk<;>intro hb)|apply Two.mk)
 refine go_ownNil 6 6 rfl ?_
 refine go_loop (fun i:Nat=>[(0,.ptr tb 0 0 0),(3,.ptr H.length 0 0 0),(4,.ptr (H.length+1) 0 0 0),(6,.sl (H.length+2) 0 0 i),(63,.int .i64 nm.length),(64,.int .i64 i)]) (fun i=>H++[.cells 0 6 [.agg [.int .i64 45,.str nm,.int .i64 n,.int .i64 a,.int .i64 b,.list 6 (ndCells l)]],.cells 0 5 [.agg [.str [],.int .i64 0,.int .i64 0,.int .i64 0,.nil]],.cells 0 6 (ndCells ((nm.take i).map byteN))]) (fun i=>nm.length - i) (fun i=>i≤nm.length) 0 (Nat.zero_le _) ?_ ?_
 ·simp only[List.append_assoc,List.cons_append,List.nil_append,List.length_append,List.length_cons,List.length_nil]
  exact Wk.sub (by simp[subEnv,look])
 rintro K i hi hK
 rcases Nat.lt_or_ge i nm.length with hlt|hge
 ·have e1:nm[i]? =some nm[i]:=List.getElem?_eq_getElem hlt
  have hs:(nm.take (i+1)).map byteN=(nm.take i).map byteN++[byteN nm[i]]:=by rw[List.take_succ_eq_append_getElem hlt,List.map_append];rfl
  have e4:(ndCells ((nm.take i).map byteN)).length=i:=by rw[ndCells_len,List.length_map,List.length_take];omega
  have u2:SV.underL H.length (ndCells ((nm.take i).map byteN))=true:=ndCells_under _ _
  have hsn:ndCells ((nm.take (i+1)).map byteN)=ndCells ((nm.take i).map byteN)++[.agg [.int .i64 44,.str [],.int .i64 (nm[i].toNat:Int),.int .i64 0,.int .i64 0,.list 6 []]]:=by
   rw[hs,ndCells_map,List.map_append,← ndCells_map];rfl
  generalize nm[i]=x at*
  generalize ndCells ((nm.take i).map byteN)=P at*
  have hw:IntKind.i64.wrap (x.toNat:Int)=x.toNat:=wrapIn (by have:=x.toNat_lt;omega) (by have:=x.toNat_lt;omega)
  have X:=And.intro noX (And.intro e1 (And.intro e4 hw))
  (refine run ?_;with_reducible repeat' first|exact trivial|(apply Fork.mk<;>intro hb)|apply Two.mk)
  refine hK _ _ (i+1) (by omega) (show i+1≤nm.length by omega) ?_
  rw[hsn]
  have u4:SV.underL H.length (P++[.agg [.int .i64 44,.str [],.int .i64 (x.toNat:Int),.int .i64 0,.int .i64 0,.list 6 []]])=true:=by simp[SV.underL_append,SV.underL,SV.under,u2]
  exact wkS (n0:=H.length) [(H.length,0),(H.length+1,0),(H.length+2,0)] hG hB hC' hcl
 obtain rfl:i=nm.length:=by omega
 rw[List.take_length]
 clear hK
 have q1:(ndCells (nm.map byteN)).length=nm.length:=by rw[ndCells_len,List.length_map]
 have u2:SV.underL H.length (ndCells (nm.map byteN))=true:=ndCells_under _ _
 have q2:List.take nm.length (ndCells (nm.map byteN))=ndCells (nm.map byteN):=List.take_of_length_le (by rw[q1];exact Nat.le_refl _)
 generalize ndCells (nm.map byteN)=P at*
 have X:=And.intro noX (Int.lt_irrefl (nm.length:Int))
 (refine run ?_;with_reducible repeat' first|exact trivial|(apply Fork.mk<;>intro hb)|apply Two.mk)
 refine go_wkO [(79,.list 6 P),(78,.ptr tb 0 0 0),(3,.ptr H.length 0 0 0),(4,.ptr (H.length+1) 0 0 0)] (H++[.cells 0 6 [.agg [.int .i64 45,.str nm,.int .i64 n,.int .i64 a,.int .i64 b,.list 6 (ndCells l)]],.cells 0 5 [.agg [.str [],.int .i64 0,.int .i64 0,.int .i64 0,.nil]]]) (wkS (n0:=H.length) [(H.length,0),(H.length+1,0)] hG hB hC' hcl (he:=⟨⟨_,rfl,Frz.sf (vals:=P) (ys:=P) (by simp) (by omega) (by simp) (by rw[List.drop_zero];exact q2) u2⟩,frzS⟩)) ?_
 have X:=And.intro noX (ndCells_len l)
 (refine run ?_;with_reducible repeat' first|exact trivial|(apply Fork.mk<;>intro hb)|apply Two.mk)
 refine callS h0 ?_
 rintro r H' ⟨rfl,c,p,bb,hp,rfl,ho⟩
 have hu:=hp.under H.length
 (refine run ?_;with_reducible repeat' first|exact trivial|(apply Fork.mk<;>intro hb)|apply Two.mk)
 have hd:decide ((l.length:Int)=0)=decide (l.length=0):=by rw[Bool.eq_iff_iff];simp
 rw[hd]
 exact finS (n0:=H.length) hR hC' hcl (.same _ (by simp[resSV,SV.under,SV.underL,hu])) ⟨rfl,c,p,_,hp,rfl,shR_if _ ho⟩
def seenM (l:List Int):List (SV×SV):=l.map fun n=>(.int .i64 n,.bool true)
theorem seenM_has:∀ (l:List Int) (n:Int),(findSV (seenM l) (.int .i64 n)).getD (.bool false)= .bool (decide (n∈l))
 |[],n=>by simp[seenM,findSV]
 |x::r,n=>by
  have h1:=seenM_has r n
  have he:SV.keyEq (.int .i64 n) (.int .i64 x)=decide (n=x):=by rw[Bool.eq_iff_iff];simp[SV.keyEq]
  show(if SV.keyEq (.int .i64 n) (.int .i64 x)=true then some (SV.bool true) else findSV (seenM r) (.int .i64 n)).getD (.bool false)=_
  by_cases h:n=x
  ·subst h;rw[he,decide_eq_true rfl];simp
  ·rw[he,decide_eq_false h,if_neg (by simp),h1];simp[h]
theorem seenM_snoc (l:List Int) (n:Int) (h:n∉l):setSV (seenM l) (.int .i64 n) (.bool true)=seenM (l++[n]):=by
 have h1:findSV (seenM l) (.int .i64 n)=none:=by
  induction l with
  |nil=>rfl
  |cons x r ih=>
   simp only[List.mem_cons,not_or] at h
   have h2:(n==x)=false:=by simpa using h.1
   simp only[seenM,List.map_cons,findSV,SV.keyEq,h2,Bool.false_eq_true,if_false]
   exact ih h.2
 rw[setSV_none _ _ _ h1]
 simp[seenM]
theorem seenM_under (n:Nat):∀ l:List Int,belowE n (seenM l)=true
 |[]=>rfl
 |x::r=>by simp only[seenM,List.map_cons,belowE,SV.under,Bool.true_and];exact seenM_under n r
def fldOK (ls:List Lb) (nm:Str) (ar:Int) (seen:List Int) (f:Nd):Prop:=f.kind=37∧f.subs.length=1∧(labF ls nm f.name).isSome=true∧0≤getLb ls nm f.name∧getLb ls nm f.name<ar∧getLb ls nm f.name∉seen
instance (ls:List Lb) (nm:Str) (ar:Int) (seen:List Int) (f:Nd):Decidable (fldOK ls nm ar seen f):=by unfold fldOK;infer_instance
theorem makeF_no {ls:List Lb} {nm:Str} {ar:Int} {seen:List Int} {f:Nd} {r:List Nd} (h:¬ fldOK ls nm ar seen f):makeF ls nm ar seen (f::r)=none:=by
 rw[makeF]
 split
 ·rename_i n p h1 h2
  rw[if_neg]
  rintro⟨a1,a2,a3,a4⟩
  refine h ⟨a1,by rw[h2];rfl,by rw[h1];rfl,?_⟩
  have:getLb ls nm f.name=n:=by rw[getLb,h1];rfl
  rw[this];exact⟨a2,a3,a4⟩
 ·rfl
theorem makeF_yes {ls:List Lb} {nm:Str} {ar:Int} {seen:List Int} {f:Nd} {r:List Nd} {q:Nd} (hq:f.subs=[q]) (h:fldOK ls nm ar seen f):makeF ls nm ar seen (f::r)=(makeF ls nm ar (seen++[getLb ls nm f.name]) r).map (⟨getLb ls nm f.name,q⟩:: ·):=by
 obtain⟨h1,h2,h3,h4,h5,h6⟩:=h
 obtain⟨n,hn⟩:=Option.isSome_iff_exists.1 h3
 have hg:getLb ls nm f.name=n:=by rw[getLb,hn];rfl
 rw[hg] at h4 h5 h6 ⊢
 rw[makeF,hn,hq]
 simp only
 rw[if_pos ⟨h1,h4,h5,h6⟩]
theorem shape_51 (G:Gl) (hG:GClosed G) (t:Tb) (tb ca la:Nat) (nm:Str) (n a b:Int) (l:List Nd) (hl:l.length<4294967296) (H:List Blk) (hT:TbAt H t tb ca la):
 ACall Tryd.prog G 35 [.ptr tb 0 0 0,.agg (Nd.mk 51 nm n a b l).cells] H (fun r H'=>H'=H∧ShR (match consF t.cons nm with
 |some c=>(makeF t.labels nm c.arity [] l).map fun l=>⟨c,l⟩
 |none=>none) r):=by
 simp only[Nd.cells]
 have z1:=consM_zero t.cons nm
 have z2:=consM_has t.cons nm
 have z3:∀ s,(findSV (labM t.labels) (.agg [.str nm,.str s])).getD (.int .i64 0)= .int .i64 (getLb t.labels nm s):=labM_zero t.labels nm
 have z4:∀ s,(findSV (labM t.labels) (.agg [.str nm,.str s])).isSome=(labF t.labels nm s).isSome:=labM_has t.labels nm
 have u1:SV.underL H.length (ndCells l)=true:=ndCells_under _ _
 have htb:tb<H.length:=(List.getElem?_eq_some_iff.1 hT.h).1
 have hfin:∀ o:Option (List Pt),(match consF t.cons nm with
  |some c=>(makeF t.labels nm c.arity [] l).map fun l=>(⟨c,l⟩:Sh)
  |none=>none)=if (consF t.cons nm).isSome=true then (makeF t.labels nm (getC t.cons nm).arity [] l).map fun l=>(⟨getC t.cons nm,l⟩:Sh) else none:=fun _=>by
  unfold getC
  cases consF t.cons nm<;>rfl
 rw[hfin none]
 clear hfin
 have q1:=ndCells_len l
 generalize getC t.cons nm=c at*
 generalize (consF t.cons nm).isSome=hs at*
 refine ACall.of_go TB [] tabOK _ Tryd.func35 rfl (by decide) Tryd.ntmps35 (by simp) rfl (by simp only[initEnv,Nat.reduceAdd];rfl) fun C R' hR hC hcl hB=>?_;have X:=noX;have hC':=congrArg List.length hC
 have X:=And.intro X (And.intro hT.X (And.intro z1 (And.intro z2 q1)))
 (refine run ?_;with_reducible repeat' first|exact trivial|(apply Fork.mk<;>intro hb)|apply Two.mk)
 refine go_loop (fun z:Nat×List Pt=>[(0,.ptr tb 0 0 0),(3,.ptr H.length 0 0 0),(4,.ptr (H.length+1) 0 0 0),(10,.ptr (H.length+2) 0 0 0),(11,.bool hs),(12,.ptr (H.length+3) 0 0 0),(13,.map (H.length+4)),(107,.list 6 (ndCells l)),(108,.int .i64 l.length),(109,.int .i64 z.1)]) (fun z=>H++[.cells 0 6 [.agg [.int .i64 51,.str nm,.int .i64 n,.int .i64 a,.int .i64 b,.list 6 (ndCells l)]],.cells 0 5 [.agg [.str [],.int .i64 0,.int .i64 0,.int .i64 0,.nil]],.cells 0 4 [.agg [.str c.name,.int .i64 c.arity,.int .i64 c.tag,.int .i64 c.family]],.cells 0 5 [.agg [.str c.name,.int .i64 c.arity,.int .i64 c.tag,.int .i64 c.family,.sl (H.length+5) 0 0 z.1]],.map (some .i64) (seenM (z.2.map Pt.place)),.cells 0 7 (ptCells z.2)]) (fun z=>l.length - z.1) (fun z=>z.1≤l.length∧z.2.length=z.1∧makeF t.labels nm c.arity [] l=(makeF t.labels nm c.arity (z.2.map Pt.place) (l.drop z.1)).map (z.2++ ·)) (0,[]) ⟨Nat.zero_le _,rfl,by simp⟩ ?_ ?_
 ·exact wk_ghostE (id:=H.length+3) (i:=0) (j:=4) 7 ((get_app ..).trans rfl) rfl rfl (by simp[ptCells,seenM]) (by simp[subEnv,look])
 rintro K ⟨i,P⟩ ⟨hi,hP,hmk⟩ hK
 simp only at hi hP hmk
 have e4:(ptCells P).length=i:=by rw[ptCells_len];exact hP
 have u2:SV.underL H.length (ptCells P)=true:=ptCells_under _ _
 have u6:List.take i (ptCells P)=ptCells P:=List.take_of_length_le (by rw[e4];exact Nat.le_refl _)
 have v1:=seenM_under H.length (P.map Pt.place)
 have sh:=seenM_has (P.map Pt.place)
 rcases Nat.lt_or_ge i l.length with hlt|hge
 ·have e1:(ndCells l)[i]? =some (.agg l[i].cells):=by rw[ndCells_get2,List.getElem?_eq_getElem hlt];rfl
  have e2:l[i].cells.length=6:=l[i].cells_len
  rw[List.drop_eq_getElem_cons hlt] at hmk
  by_cases hg:fldOK t.labels nm c.arity (P.map Pt.place) l[i]
  ·generalize l[i]=f at*
   obtain⟨fk,fn,fnn,fa,fb,fs⟩:=f
   obtain⟨q,rfl⟩:∃ q,fs=[q]:=List.length_eq_one_iff.1 hg.2.1
   rw[makeF_yes (q:=q) rfl hg] at hmk
   obtain⟨g1,g2,g3,g4,g5,g6⟩:=hg
   clear e2
   simp only[Nd.kind,Nd.name,Nd.cells,ndCells] at g1 g3 g4 g5 g6 hmk e1
   subst g1
   have z3':=z3 fn
   have z4':=(z4 fn).trans g3
   have sh':=sh (getLb t.labels nm fn)
   rw[decide_eq_false g6] at sh'
   have ss:=seenM_snoc _ _ g6
   have e5:q.cells.length=6:=q.cells_len
   have e6:q.cells.take 6=q.cells:=q.cells_take
   have u3:SV.underL H.length q.cells=true:=q.cells_under _
   have hsn:=ptCells_snoc P ⟨getLb t.labels nm fn,q⟩
   have v2:=seenM_under H.length (P.map Pt.place++[getLb t.labels nm fn])
   simp only at hsn
   generalize getLb t.labels nm fn=g at*
   have X:=And.intro noX (And.intro hT.X (And.intro q1 (And.intro e1 (And.intro e4 (And.intro e5 (And.intro e6 (And.intro z3' (And.intro z4' (And.intro sh' (And.intro ss (And.intro (show ¬ g<0 by omega) (show ¬ c.arity≤g by omega))))))))))))
   (refine run ?_;with_reducible repeat' first|exact trivial|(apply Fork.mk<;>intro hb)|apply Two.mk)
   simp only[List.append_nil]
   refine hK _ _ (i+1,P++[⟨g,q⟩]) (show l.length - (i+1)<l.length - i by omega) ⟨show i+1≤l.length by omega,by simp[hP],?_⟩ ?_
   ·rw[hmk,Option.map_map]
    simp only[List.map_append,List.map_cons,List.map_nil]
    congr 1
    funext x
    simp
   ·simp only[hsn,List.map_append,List.map_cons,List.map_nil]
    have u4:SV.underL H.length (ptCells P++[SV.agg (SV.int IntKind.i64 g::q.cells)])=true:=by simp[SV.underL_append,SV.underL,SV.under,u2,u3]
    exact wkS (n0:=H.length) [(H.length,0),(H.length+1,0),(H.length+2,0),(H.length+3,0),(H.length+4,0),(H.length+5,0)] hG hB hC' hcl
  ·rw[makeF_no hg] at hmk
   generalize l[i]=f at*
   obtain⟨fk,fn,fnn,fa,fb,fs⟩:=f
   clear e2
   simp only[fldOK,Nd.kind,Nd.name,Nd.subs,Nd.cells] at hg e1
   have z3':=z3 fn
   have z4':=z4 fn
   have sh':=sh (getLb t.labels nm fn)
   have q2:=ndCells_len fs
   generalize getLb t.labels nm fn=g at*
   have X:=And.intro noX (And.intro hT.X (And.intro q1 (And.intro q2 (And.intro e1 (And.intro e4 (And.intro z3' (And.intro z4' sh')))))))
   (refine run ?_;with_reducible repeat' first|exact trivial|(apply Fork.mk<;>intro hb)|apply Two.mk)
   ·refine finS (n0:=H.length) (y:= .tuple [.agg [.str c.name,.int .i64 c.arity,.int .i64 c.tag,.int .i64 c.family,.list 7 (ptCells P)],.bool false]) hR hC' hcl (.tuple _ _ (.cons _ _ _ _ (.agg _ _ (.cons _ _ _ _ (.same _ rfl) (.cons _ _ _ _ (.same _ rfl) (.cons _ _ _ _ (.same _ rfl) (.cons _ _ _ _ (.same _ rfl) (.cons _ _ _ _ (Frz.sf (vals:=ptCells P) (ys:=ptCells P) (by simp) (by omega) (by simp) (by rw[List.drop_zero];exact u6) u2) .nil)))))) (.cons _ _ _ _ (.same _ rfl) .nil))) ⟨rfl,c,_,false,.inr ⟨P,rfl⟩,rfl,?_⟩
    rw[hmk]
    cases hs<;>rfl
   ·exfalso
    simp only[Bool.or_eq_false_iff,decide_eq_false_iff_not,Classical.not_not,Bool.not_eq_false',decide_eq_true_eq] at hb
    exact hg ⟨hb.1.1.1.1.1,by have:=hb.1.1.1.1.2;omega,hb.1.1.1.2,by have:=hb.1.1.2;omega,by have:=hb.1.2;omega,hb.2⟩
 obtain rfl:i=l.length:=by omega
 rw[List.drop_length] at hmk
 clear hK
 have X:=And.intro noX (Int.lt_irrefl (l.length:Int))
 (refine run ?_;with_reducible repeat' first|exact trivial|(apply Fork.mk<;>intro hb)|apply Two.mk)
 refine finS (n0:=H.length) (y:= .tuple [.agg [.str c.name,.int .i64 c.arity,.int .i64 c.tag,.int .i64 c.family,.list 7 (ptCells P)],.bool hs]) hR hC' hcl (.tuple _ _ (.cons _ _ _ _ (.agg _ _ (.cons _ _ _ _ (.same _ rfl) (.cons _ _ _ _ (.same _ rfl) (.cons _ _ _ _ (.same _ rfl) (.cons _ _ _ _ (.same _ rfl) (.cons _ _ _ _ (Frz.sf (vals:=ptCells P) (ys:=ptCells P) (by simp) (by omega) (by simp) (by rw[List.drop_zero];exact u6) u2) .nil)))))) (.cons _ _ _ _ (.same _ rfl) .nil))) ⟨rfl,c,_,hs,.inr ⟨P,rfl⟩,rfl,?_⟩
 rw[hmk]
 cases hs<;>simp[makeF]
theorem shpM_ok (G:Gl) (hG:GClosed G) (t:Tb) (tb ca la:Nat) (p:Nd) (h1:p.name.length<4294967296) (h2:p.subs.length<4294967296) (H:List Blk) (hT:TbAt H t tb ca la):
 ACall Tryd.prog G 35 [.ptr tb 0 0 0,.agg p.cells] H (fun r H'=>H'=H∧ShR (shpF t p) r):=by
 unfold shpF
 by_cases h46:p.kind=46
 ·rw[if_pos h46];obtain⟨k,nm,n,a,b,l⟩:=p;obtain rfl:k=46:=h46;exact shape_46 G hG t tb ca la nm n a b l h2 H hT
 rw[if_neg h46]
 by_cases h48:p.kind=48
 ·rw[if_pos h48];obtain⟨k,nm,n,a,b,l⟩:=p;obtain rfl:k=48:=h48;exact shape_48 G hG t tb ca la nm n a b l h2 H hT
 rw[if_neg h48]
 by_cases h49:p.kind=49
 ·rw[if_pos h49];obtain⟨k,nm,n,a,b,l⟩:=p;obtain rfl:k=49:=h49;exact shape_49 G hG t tb ca la nm n a b l h2 H hT
 rw[if_neg h49]
 by_cases h45:p.kind=45
 ·rw[if_pos h45];obtain⟨k,nm,n,a,b,l⟩:=p;obtain rfl:k=45:=h45;exact shape_45 G hG t tb ca la nm n a b l h1 h2 H hT
 rw[if_neg h45]
 by_cases h51:p.kind=51
 ·rw[if_pos h51];obtain⟨k,nm,n,a,b,l⟩:=p;obtain rfl:k=51:=h51;exact shape_51 G hG t tb ca la nm n a b l h2 H hT
 rw[if_neg h51]
 obtain⟨k,nm,n,a,b,l⟩:=p
 exact shape_x G hG t tb ca la k nm n a b l h2 H hT h46 h48 h49 h45 h51
end Go.Proofs.YtggmfabkpnfodaaDoor
