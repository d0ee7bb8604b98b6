/- Rows behind one that is sure, and does not go on, change nothing (MatchStops, in the form for data of bounded bulk). Names and spaces are cut short by program. -/
import Derived.Test.YtggmfabkpnfodaaDoorMf
set_option linter.unusedSimpArgs false
set_option linter.unusedVariables false
set_option maxRecDepth 10000
set_option maxHeartbeats 4000000
namespace Go.Proofs.YtggmfabkpnfodaaDoor
open Go
def RowsCS (G:Gl) (t:Tb) (mb tb ca la:Nat) (cols:List Str) (id g:Nat) (W:List SV) (off:Nat) (rs:List Rw):Prop:=∀ (H:List Blk) (n:Int),cols.length<4294967296→rs.length<4294967296→RowsOK t cols rs→MkAt H t mb tb ca la→0≤n→n+cntR rs≤1152921504606846976→H[id]? =some (.cells g 9 W)→mb≠id→W.drop off=rwCells rs→
 ACall Tryd.prog G 26 [.ptr mb 0 0 0,.list 1 (cols.map .str),.sl id g off rs.length] (H.set mb (mkC tb n)) (fun r H'=>H'=H.set mb (mkC tb (rowsF t cols rs n).2)∧r= .agg (rowsF t cols rs n).1.cells)
theorem rows_closedS (G:Gl) (hG:GClosed G) (C0:Cx) (hb0:G.base=some C0) (hL:LibAt C0) (t:Tb) (har:∀ c∈t.cons,c.arity≤100) (mb tb ca la:Nat) (cols:List Str) (ps:List Nd) (body:Ex) (rs:List Rw) (H:List Blk) (n:Int) (hcl0:cols.length<4294967296) (hrl:rs.length<4294967295) (hp1:ps.length=cols.length) (hp2:RightN t ps) (hbw:body.wt<2147483648) (hM:MkAt H t mb tb ca la) (h0:0≤n) (id g off:Nat) (W:List SV) (hid:H[id]? =some (.cells g 9 W)) (hmi:mb≠id) (hWd:W.drop off= .agg (.list 6 (ndCells ps)::body.cells)::rwCells rs) (hn:n+101*msrN ps≤1152921504606846976) (ho:openR t ⟨ps,body⟩=false):
 ACall Tryd.prog G 26 [.ptr mb 0 0 0,.list 1 (cols.map .str),.sl id g off (rs.length+1)] (H.set mb (mkC tb n)) (fun r H'=>H'=H.set mb (mkC tb (rowF t emptyE ps cols body n).2)∧r= .agg (rowF t emptyE ps cols body n).1.cells):=by
 obtain⟨x1,x2,x3⟩:=hM.X
 have hmb:=hM.m
 simp only[openR,Bool.or_eq_false_iff] at ho
 obtain⟨ho1,ho2⟩:=ho
 have c1:=fun H2=>free_list G hG body (by omega) H2
 have c2:=fun H2=>contains_list G (freeS body) nextN H2 (by have:=freeS_len body;omega)
 rw[ho1] at c2
 have c3:=anyNd_ok G hG (.fn (.func 44) [] [.ptr H.length 0 0 0]) (fun p=>!(rgtF t (p.msr+1) p).2) ps (H.set mb (mkC tb n)++[Blk.cells 0 1 [.ptr mb 0 0 0],Blk.cells 0 8 [.agg [.int .i64 0,.str [],.int .i64 0,.int .i64 0,.list 1 [],.list 8 [],.list 9 [],.list 12 []]],Blk.cells 0 9 [.agg (.list 6 (ndCells ps)::body.cells)]]) (by omega) (by simp[SV.under,SV.underL,x2]) (fun p hp=>ACallV.of (by
  have:=sure_cl G hG t mb tb ca la (H++[Blk.cells 0 1 [.ptr mb 0 0 0],Blk.cells 0 8 [.agg [.int .i64 0,.str [],.int .i64 0,.int .i64 0,.list 1 [],.list 8 [],.list 9 [],.list 12 []]],Blk.cells 0 9 [.agg (.list 6 (ndCells ps)::body.cells)]]) (hM.app _) H.length (by rw[get_app0];rfl) (by omega) p (hp2 p hp).1 n
  simp only[List.set_append_left _ _ hmb] at this
  exact this))
 rw[ho2] at c3
 have c4:ACall Tryd.prog G 45 [.ptr mb 0 0 0,.list 6 (ndCells ps),.list 1 (cols.map .str),.agg emptyE.cells,.agg body.cells] (H.set mb (mkC tb n)++[Blk.cells 0 1 [.ptr mb 0 0 0],Blk.cells 0 8 [.agg [.int .i64 0,.str [],.int .i64 0,.int .i64 0,.list 1 [],.list 8 [],.list 9 [],.list 12 []]],Blk.cells 0 9 [.agg (.list 6 (ndCells ps)::body.cells)]]) (fun r H'=>H'=H.set mb (mkC tb (rowF t emptyE ps cols body n).2)++[Blk.cells 0 1 [.ptr mb 0 0 0],Blk.cells 0 8 [.agg [.int .i64 0,.str [],.int .i64 0,.int .i64 0,.list 1 [],.list 8 [],.list 9 [],.list 12 []]],Blk.cells 0 9 [.agg (.list 6 (ndCells ps)::body.cells)]]∧r= .agg (rowF t emptyE ps cols body n).1.cells):=by
  have:=row_ok G hG C0 hb0 hL t har mb tb ca la emptyE ps cols body (H++[Blk.cells 0 1 [.ptr mb 0 0 0],Blk.cells 0 8 [.agg [.int .i64 0,.str [],.int .i64 0,.int .i64 0,.list 1 [],.list 8 [],.list 9 [],.list 12 []]],Blk.cells 0 9 [.agg (.list 6 (ndCells ps)::body.cells)]]) n hp1 (by omega) hp2 (hM.app _) h0 hn
  simpa only[List.set_append_left _ _ hmb] using this
 have hR1:=(rowF t emptyE ps cols body n).1.cells_under H.length
 have hR2:=(rowF t emptyE ps cols body n).1.cells_len
 generalize rowF t emptyE ps cols body n=R1 at*
 obtain⟨r1,n1⟩:=R1
 simp only at c4 hR1 hR2
 simp only[emptyE,Ex.cells,exCells,bdCells,alCells,List.map_nil,nextN] at c4 c2
 have e3:=body.cells_len
 have e4:=body.cells_take
 obtain⟨k1,k2,k3⟩:=set_get hid hmi
 have hW:W[off]? =some (.agg (.list 6 (ndCells ps)::body.cells)):=by
  have:=congrArg (·[0]?) hWd
  simpa using this
 have hW0:W[off+0]? =some (.agg (.list 6 (ndCells ps)::body.cells)):=hW
 have hWt:List.take (rs.length+1) (W.drop off)= .agg (.list 6 (ndCells ps)::body.cells)::rwCells rs:=by
  rw[hWd,List.take_of_length_le (by simp[rwCells_len])]
 clear hWd
 generalize ndCells ps=PS at*
 generalize cols.map SV.str=CS at*
 refine ACall.of_go TB [] tabOK _ Tryd.func26 rfl (by decide) Tryd.ntmps26 (by simp) rfl (by simp only[initEnv,Nat.reduceAdd];rfl) fun C R' hR hC hcl hB=>?_;have X:=noX;have hC':=congrArg List.length hC
 have hcl2:=closed_mk hM hcl
 have hC2:C.H.length=H.length:=by rw[hC,x2]
 have X:=And.intro X (And.intro x2 (And.intro e3 (And.intro e4 (And.intro (And.intro k1 (And.intro k2 (And.intro hW (And.intro hW0 hWt)))) (And.intro hR2 (show ¬ ((rs.length+1:Nat):Int)=0 by omega))))))
 (refine run ?_;with_reducible repeat' first|exact trivial|(apply Fork.mk<;>intro hb)|apply Two.mk)
 exact finS (n0:=H.length) hR hC2 (hcl2 _) (.same _ (by simp[resSV,SV.under,hR1])) ⟨rfl,rfl⟩ (hn:=x2 _)
theorem rows_openS (G:Gl) (hG:GClosed G) (C0:Cx) (hb0:G.base=some C0) (hL:LibAt C0) (t:Tb) (har:∀ c∈t.cons,c.arity≤100) (mb tb ca la:Nat) (cols:List Str) (ps:List Nd) (body:Ex) (rs:List Rw) (H:List Blk) (n:Int) (hcl0:cols.length<4294967296) (hrl:rs.length<4294967295) (hp1:ps.length=cols.length) (hp2:RightN t ps) (hbw:body.wt<2147483648) (hM:MkAt H t mb tb ca la) (h0:0≤n) (id g off:Nat) (W:List SV) (hid:H[id]? =some (.cells g 9 W)) (hmi:mb≠id) (hWd:W.drop off= .agg (.list 6 (ndCells ps)::body.cells)::rwCells rs) (ih:RowsCS G t mb tb ca la cols id g W (off+1) rs) (hW2:W.drop (off+1)=rwCells rs) (hro:RowsOK t cols rs) (hn:n+cntR (⟨ps,body⟩::rs)≤1152921504606846976) (ho:openR t ⟨ps,body⟩=true) (O:Ex×Int) (hO:O=rowsF t cols rs (n+2)) (R1:Ex×Int) (hR1e:R1=rowF t (appE (nmN n)) ps cols (repS nextN (appE (nmN n)) body) O.2):
 ACall Tryd.prog G 26 [.ptr mb 0 0 0,.list 1 (cols.map .str),.sl id g off (rs.length+1)] (H.set mb (mkC tb n)) (fun r H'=>H'=H.set mb (mkC tb R1.2)∧r= .agg (letE (nmN n) (lamE (nmN (n+1)) O.1) R1.1).cells):=by
 obtain⟨x1,x2,x3⟩:=hM.X
 have hmb:=hM.m
 have ecnt:cntR (⟨ps,body⟩::rs)=2+101*msrN ps+cntR rs:=by simp[cntR]
 have hle:=rowsF_le har cols rs hro (n+2)
 rw[← hO] at hle
 have c1:=fun H2=>free_list G hG body (by omega) H2
 have c2:=fun H2=>contains_list G (freeS body) nextN H2 (by have:=freeS_len body;omega)
 have c3:=anyNd_ok G hG (.fn (.func 44) [] [.ptr H.length 0 0 0]) (fun p=>!(rgtF t (p.msr+1) p).2) ps (H.set mb (mkC tb n)++[Blk.cells 0 1 [.ptr mb 0 0 0],Blk.cells 0 8 [.agg [.int .i64 0,.str [],.int .i64 0,.int .i64 0,.list 1 [],.list 8 [],.list 9 [],.list 12 []]],Blk.cells 0 9 [.agg (.list 6 (ndCells ps)::body.cells)]]) (by omega) (by simp[SV.under,SV.underL,x2]) (fun p hp=>ACallV.of (by
  have:=sure_cl G hG t mb tb ca la (H++[Blk.cells 0 1 [.ptr mb 0 0 0],Blk.cells 0 8 [.agg [.int .i64 0,.str [],.int .i64 0,.int .i64 0,.list 1 [],.list 8 [],.list 9 [],.list 12 []]],Blk.cells 0 9 [.agg (.list 6 (ndCells ps)::body.cells)]]) (hM.app _) H.length (by rw[get_app0];rfl) (by omega) p (hp2 p hp).1 n
  simp only[List.set_append_left _ _ hmb] at this
  exact this))
 have c2t:nextN∈freeS body→∀ H2,ACall Tryd.prog G 24 [.list 1 ((freeS body).map .str),.str nextN] H2 (fun r H'=>H'=H2∧r= .bool true):=fun hh H2=>by
  have:=c2 H2
  rwa[decide_eq_true hh] at this
 have c2f:nextN∉freeS body→∀ H2,ACall Tryd.prog G 24 [.list 1 ((freeS body).map .str),.str nextN] H2 (fun r H'=>H'=H2∧r= .bool false):=fun hh H2=>by
  have:=c2 H2
  rwa[decide_eq_false hh] at this
 clear c2
 simp only[openR] at ho
 have hfr:∀ (m:Int) (L:List Blk),0≤m→m<4611686018427387904→ACall Tryd.prog G 46 [.ptr mb 0 0 0] (H.set mb (mkC tb m)++L) (fun r H'=>H'=H.set mb (mkC tb (m+1))++L∧r= .str (nmN m)):=fun m L a1 a2=>by
  have:=fresh_ok G hG C0 hb0 hL tb mb m a1 a2 (H.set mb (mkC tb m)++L) (x1 _ _)
  rwa[x3] at this
 have hrs:∀ L,ACall Tryd.prog G 26 [.ptr mb 0 0 0,.list 1 (cols.map .str),.sl id g (off+1) rs.length] (H.set mb (mkC tb (n+1+1))++L) (fun r H'=>H'=H.set mb (mkC tb O.2)++L∧r= .agg O.1.cells):=fun L=>by
  have:=ih (H++L) (n+2) hcl0 (by omega) hro (hM.app _) (by omega) (by omega) (get_app_left hid) hmi hW2
  rw[← hO] at this
  rw[show n+1+1=n+2 by omega]
  simpa only[List.set_append_left _ _ hmb] using this
 have hrw:∀ L,ACall Tryd.prog G 45 [.ptr mb 0 0 0,.list 6 (ndCells ps),.list 1 (cols.map .str),.agg (appE (nmN n)).cells,.agg (repS nextN (appE (nmN n)) body).cells] (H.set mb (mkC tb O.2)++L) (fun r H'=>H'=H.set mb (mkC tb R1.2)++L∧r= .agg R1.1.cells):=fun L=>by
  have:=row_ok G hG C0 hb0 hL t har mb tb ca la (appE (nmN n)) ps cols (repS nextN (appE (nmN n)) body) (H++L) O.2 hp1 (by omega) hp2 (hM.app _) (by omega) (by omega)
  rw[← hR1e] at this
  simpa only[List.set_append_left _ _ hmb] using this
 clear hR1e hO hle
 have hrp:∀ H2,ACall Tryd.prog G 48 [.agg body.cells,.str nextN,.agg (appE (nmN n)).cells] H2 (fun v H'=>H'=H2∧v= .agg (repS nextN (appE (nmN n)) body).cells):=fun H2=>replace_ok G hG nextN (appE (nmN n)) body.wt body H2 (Nat.le_refl _) (by omega)
 have hlet:=fun H2=>let_ok G hG (nmN n) (lamE (nmN (n+1)) O.1) R1.1 H2
 have hnm:=fun H2=>named_ok G hG (nmN n) H2
 obtain⟨O1,O2⟩:=O
 obtain⟨r1,n1⟩:=R1
 simp only at hrs hrw hlet ⊢
 have e3:=body.cells_len
 have e4:=body.cells_take
 have e5:=(repS nextN (appE (nmN n)) body).cells_len
 have f1:=O1.cells_len
 have f2:=O1.cells_take
 have f3:=r1.cells_len
 have f4:=r1.cells_take
 obtain⟨k1,k2,k3⟩:=set_get hid hmi
 have hW:W[off]? =some (.agg (.list 6 (ndCells ps)::body.cells)):=by
  have:=congrArg (·[0]?) hWd
  simpa using this
 have hW0:W[off+0]? =some (.agg (.list 6 (ndCells ps)::body.cells)):=hW
 have hWt:List.take (rs.length+1) (W.drop off)= .agg (.list 6 (ndCells ps)::body.cells)::rwCells rs:=by
  rw[hWd,List.take_of_length_le (by simp[rwCells_len])]
 clear hWd
 have u1:=body.cells_under H.length
 have u2:=ndCells_under H.length ps
 have u3:=O1.cells_under H.length
 have u4:=r1.cells_under H.length
 have hR1:=(letE (nmN n) (lamE (nmN (n+1)) O1) r1).cells_under H.length
 have hR2:=(letE (nmN n) (lamE (nmN (n+1)) O1) r1).cells_len
 generalize letE (nmN n) (lamE (nmN (n+1)) O1) r1=R3 at*
 have q4:rs.length+1 - 1=rs.length:=rfl
 generalize ndCells ps=PS at*
 have u6:SV.underL H.length (cols.map SV.str)=true:=SV.underL_map fun _ _=>rfl
 generalize cols.map SV.str=CS at*
 have e6:=(repS nextN (appE (nmN n)) body).cells_take
 generalize repS nextN (appE (nmN n)) body=RP at*
 simp only[nextN] at hrp
 simp only[appE,varE,unitN,lamE,Ex.cells,exCells,bdCells,alCells,List.map_nil,List.map_cons] at hrp hrw hnm hlet
 refine ACall.of_go TB [] tabOK _ Tryd.func26 rfl (by decide) Tryd.ntmps26 (by simp) rfl (by simp only[initEnv,Nat.reduceAdd];rfl) fun C R' hR hC hcl hB=>?_;have X:=noX;have hC':=congrArg List.length hC
 have hcl2:=closed_mk hM hcl
 have hC2:C.H.length=H.length:=by rw[hC,x2]
 have X0:=And.intro noX (And.intro (fun l=>List.append_nil l:∀ l:List SV,l++[]=l) (And.intro x2 (And.intro e3 (And.intro e4 (And.intro (And.intro k1 (And.intro k2 (And.intro hW (And.intro hW0 hWt)))) (And.intro q4 (And.intro f1 (And.intro f2 (And.intro f3 (And.intro f4 (And.intro hR2 e5)))))))))))
 have X:=And.intro X0 (show ¬ ((rs.length+1:Nat):Int)=0 by omega)
 have hgo:nextN∈freeS body∨(nextN∉freeS body∧(ps.any fun p=>!(rgtF t (p.msr+1) p).2)=true):=by
  by_cases h:nextN∈freeS body
  ·exact .inl h
  ·rw[decide_eq_false h,Bool.false_or] at ho;exact .inr ⟨h,ho⟩
 clear ho
 rcases hgo with hb1|⟨hb1,hb2⟩
 ·have c2:=c2t hb1
  simp only[nextN] at c2
  clear c3
  (refine runD ?_;with_reducible repeat' first|exact trivial|(apply Fork.mk<;>intro hb)|apply Two.mk)
  clear c1 c2
  refine go_cut (fun _:Unit=>[(1,.list 1 CS),(2,.sl id g off (rs.length+1)),(3,.ptr H.length 0 0 0),(6,.ptr (H.length+1) 0 0 0),(7,.ptr (H.length+2) 0 0 0),(9,.str (nmN n)),(10,.str (nmN (n+1)))]) (fun _=>H.set mb (mkC tb (n+1+1))++[Blk.cells 0 1 [.ptr mb 0 0 0],Blk.cells 0 8 [.agg [.int .i64 0,.str [],.int .i64 0,.int .i64 0,.list 1 [],.list 8 [],.list 9 [],.list 12 []]],.cells 0 9 [.agg (.list 6 PS::body.cells)]]) (fun _=>True) (fun K hK=>?_) (fun _ _=>?_)
  ·have c1:=fun L=>hfr n L h0 (by omega)
   have c2:=fun L=>hfr (n+1) L (by omega) (by omega)
   have X:=X0
   (refine run ?_;with_reducible repeat' first|exact trivial|(apply Fork.mk<;>intro hb)|apply Two.mk)
   all_goals
    refine hK _ _ () trivial ?_
    exact Wk.sub (by simp[subEnv,look])
  refine go_seq ?_
  refine go_cut (fun _:Unit=>[(1,.list 1 CS),(2,.sl id g off (rs.length+1)),(3,.ptr H.length 0 0 0),(6,.ptr (H.length+1) 0 0 0),(7,.ptr (H.length+2) 0 0 0),(9,.str (nmN n)),(10,.str (nmN (n+1))),(11,.ptr (H.length+3) 0 0 0)]) (fun _=>H.set mb (mkC tb O2)++[Blk.cells 0 1 [.ptr mb 0 0 0],Blk.cells 0 8 [.agg [.int .i64 0,.str [],.int .i64 0,.int .i64 0,.list 1 [],.list 8 [],.list 9 [],.list 12 []]],.cells 0 9 [.agg (.list 6 PS::body.cells)],.cells 0 8 [.agg O1.cells]]) (fun _=>True) (fun K hK=>?_) (fun _ _=>?_)
  ·have c1:=hrs
   have X:=X0
   (refine run ?_;with_reducible repeat' first|exact trivial|(apply Fork.mk<;>intro hb)|apply Two.mk)
   all_goals
    refine hK _ _ () trivial ?_
    exact Wk.sub (by simp[subEnv,look])
  have c1:=hnm
  have X:=X0
  (refine runD ?_;with_reducible repeat' first|exact trivial|(apply Fork.mk<;>intro hb)|apply Two.mk)
  clear c1
  refine go_cut (fun _:Unit=>[(6,.ptr (H.length+1) 0 0 0),(9,.str (nmN n)),(10,.str (nmN (n+1))),(11,.ptr (H.length+3) 0 0 0),(13,.ptr (H.length+5) 0 0 0)]) (fun _=>H.set mb (mkC tb n1)++[Blk.cells 0 1 [.ptr mb 0 0 0],Blk.cells 0 8 [.agg [.int .i64 0,.str [],.int .i64 0,.int .i64 0,.list 1 [],.list 8 [],.list 9 [],.list 12 []]],.cells 0 9 [.agg (.list 6 PS::body.cells)],.cells 0 8 [.agg O1.cells],.cells 0 8 [.agg [.int .i64 4,.str [],.int .i64 0,.int .i64 0,.list 1 [],.list 8 [.agg [.int .i64 1,.str (nmN n),.int .i64 0,.int .i64 0,.list 1 [],.list 8 [],.list 9 [],.list 12 []],.agg [.int .i64 7,.str [80,114,105,109,46,40,41],.int .i64 0,.int .i64 0,.list 1 [],.list 8 [],.list 9 [],.list 12 []]],.list 9 [],.list 12 []]],.cells 0 8 [.agg r1.cells]]) (fun _=>True) (fun K hK=>?_) (fun _ _=>?_)
  ·have c1:=hrp
   have c2:=hrw
   have X:=X0
   (refine run ?_;with_reducible repeat' first|exact trivial|(apply Fork.mk<;>intro hb)|apply Two.mk)
   all_goals
    refine hK _ _ () trivial ?_
    exact Wk.sub (by simp[subEnv,look])
  have c1:=hlet
  have X:=X0
  (refine run ?_;with_reducible repeat' first|exact trivial|(apply Fork.mk<;>intro hb)|apply Two.mk)
  exact finS (n0:=H.length) hR hC2 (hcl2 _) (.same _ (by simp[resSV,SV.under,hR1])) ⟨rfl,rfl⟩ (hn:=x2 _)
 ·have c2:=c2f hb1
  simp only[nextN] at c2
  rw[hb2] at c3
  (refine runD ?_;with_reducible repeat' first|exact trivial|(apply Fork.mk<;>intro hb)|apply Two.mk)
  clear c1 c2
  refine go_cut (fun _:Unit=>[(1,.list 1 CS),(2,.sl id g off (rs.length+1)),(3,.ptr H.length 0 0 0),(6,.ptr (H.length+1) 0 0 0),(7,.ptr (H.length+2) 0 0 0),(9,.str (nmN n)),(10,.str (nmN (n+1)))]) (fun _=>H.set mb (mkC tb (n+1+1))++[Blk.cells 0 1 [.ptr mb 0 0 0],Blk.cells 0 8 [.agg [.int .i64 0,.str [],.int .i64 0,.int .i64 0,.list 1 [],.list 8 [],.list 9 [],.list 12 []]],.cells 0 9 [.agg (.list 6 PS::body.cells)]]) (fun _=>True) (fun K hK=>?_) (fun _ _=>?_)
  ·have c1:=fun L=>hfr n L h0 (by omega)
   have c2:=fun L=>hfr (n+1) L (by omega) (by omega)
   have X:=X0
   (refine run ?_;with_reducible repeat' first|exact trivial|(apply Fork.mk<;>intro hb)|apply Two.mk)
   all_goals
    refine hK _ _ () trivial ?_
    exact Wk.sub (by simp[subEnv,look])
  refine go_seq ?_
  refine go_cut (fun _:Unit=>[(1,.list 1 CS),(2,.sl id g off (rs.length+1)),(3,.ptr H.length 0 0 0),(6,.ptr (H.length+1) 0 0 0),(7,.ptr (H.length+2) 0 0 0),(9,.str (nmN n)),(10,.str (nmN (n+1))),(11,.ptr (H.length+3) 0 0 0)]) (fun _=>H.set mb (mkC tb O2)++[Blk.cells 0 1 [.ptr mb 0 0 0],Blk.cells 0 8 [.agg [.int .i64 0,.str [],.int .i64 0,.int .i64 0,.list 1 [],.list 8 [],.list 9 [],.list 12 []]],.cells 0 9 [.agg (.list 6 PS::body.cells)],.cells 0 8 [.agg O1.cells]]) (fun _=>True) (fun K hK=>?_) (fun _ _=>?_)
  ·have c1:=hrs
   have X:=X0
   (refine run ?_;with_reducible repeat' first|exact trivial|(apply Fork.mk<;>intro hb)|apply Two.mk)
   all_goals
    refine hK _ _ () trivial ?_
    exact Wk.sub (by simp[subEnv,look])
  have c1:=hnm
  have X:=X0
  (refine runD ?_;with_reducible repeat' first|exact trivial|(apply Fork.mk<;>intro hb)|apply Two.mk)
  clear c1
  refine go_cut (fun _:Unit=>[(6,.ptr (H.length+1) 0 0 0),(9,.str (nmN n)),(10,.str (nmN (n+1))),(11,.ptr (H.length+3) 0 0 0),(13,.ptr (H.length+5) 0 0 0)]) (fun _=>H.set mb (mkC tb n1)++[Blk.cells 0 1 [.ptr mb 0 0 0],Blk.cells 0 8 [.agg [.int .i64 0,.str [],.int .i64 0,.int .i64 0,.list 1 [],.list 8 [],.list 9 [],.list 12 []]],.cells 0 9 [.agg (.list 6 PS::body.cells)],.cells 0 8 [.agg O1.cells],.cells 0 8 [.agg [.int .i64 4,.str [],.int .i64 0,.int .i64 0,.list 1 [],.list 8 [.agg [.int .i64 1,.str (nmN n),.int .i64 0,.int .i64 0,.list 1 [],.list 8 [],.list 9 [],.list 12 []],.agg [.int .i64 7,.str [80,114,105,109,46,40,41],.int .i64 0,.int .i64 0,.list 1 [],.list 8 [],.list 9 [],.list 12 []]],.list 9 [],.list 12 []]],.cells 0 8 [.agg r1.cells]]) (fun _=>True) (fun K hK=>?_) (fun _ _=>?_)
  ·have c1:=hrp
   have c2:=hrw
   have X:=X0
   (refine run ?_;with_reducible repeat' first|exact trivial|(apply Fork.mk<;>intro hb)|apply Two.mk)
   all_goals
    refine hK _ _ () trivial ?_
    exact Wk.sub (by simp[subEnv,look])
  have c1:=hlet
  have X:=X0
  (refine run ?_;with_reducible repeat' first|exact trivial|(apply Fork.mk<;>intro hb)|apply Two.mk)
  exact finS (n0:=H.length) hR hC2 (hcl2 _) (.same _ (by simp[resSV,SV.under,hR1])) ⟨rfl,rfl⟩ (hn:=x2 _)
theorem rowsS_ok (G:Gl) (hG:GClosed G) (C0:Cx) (hb0:G.base=some C0) (hL:LibAt C0) (t:Tb) (har:∀ c∈t.cons,c.arity≤100) (mb tb ca la:Nat) (cols:List Str) (id g:Nat) (W:List SV):∀ (rs:List Rw) (off:Nat),RowsCS G t mb tb ca la cols id g W off rs
 |[],off,H,n,_,_,_,hM,h0,hn,hid,hmi,hW=>by
  obtain⟨x1,x2,x3⟩:=hM.X
  rw[show rowsF t cols [] n=(raiseE,n) by rw[rowsF]]
  have hR1:=raiseE.cells_under H.length
  simp only[List.length_nil]
  obtain⟨k1,k2,k3⟩:=set_get hid hmi
  refine ACall.of_go TB [] tabOK _ Tryd.func26 rfl (by decide) Tryd.ntmps26 (by simp) rfl (by simp only[initEnv,Nat.reduceAdd];rfl) fun C R' hR hC hcl hB=>?_;have X:=noX;have hC':=congrArg List.length hC
  have hcl2:=closed_mk hM hcl
  have hC2:C.H.length=H.length:=by rw[hC,x2]
  have X:=And.intro X (And.intro x2 (And.intro k1 k2))
  (refine run ?_;with_reducible repeat' first|exact trivial|(apply Fork.mk<;>intro hb)|apply Two.mk)
  exact finS (n0:=H.length) hR hC2 (hcl2 _) (.same _ rfl) ⟨rfl,rfl⟩ (hn:=x2 _)
 |r::rs,off,H,n,hc,hl,hro,hM,h0,hn,hid,hmi,hW=>by
  obtain⟨ps,body⟩:=r
  have ih:=rowsS_ok G hG C0 hb0 hL t har mb tb ca la cols id g W rs (off+1)
  have hro':RowsOK t cols rs:=fun q hq=>hro q (List.mem_cons_of_mem _ hq)
  obtain⟨r1,r2,r3⟩:=hro _ (List.mem_cons_self ..)
  simp only at r1 r2 r3
  have ecnt:cntR (⟨ps,body⟩::rs)=2+101*msrN ps+cntR rs:=by simp[cntR]
  simp only[List.length_cons] at hl
  have hcells:rwCells (⟨ps,body⟩::rs)= .agg (.list 6 (ndCells ps)::body.cells)::rwCells rs:=rfl
  rw[hcells] at hW
  have hW2:W.drop (off+1)=rwCells rs:=by
   have:=congrArg List.tail hW
   simpa using this
  simp only[List.length_cons]
  cases ho:openR t ⟨ps,body⟩ with
  |true=>
   rw[show rowsF t cols (⟨ps,body⟩::rs) n=(letE (nmN n) (lamE (nmN (n+1)) (rowsF t cols rs (n+2)).1) (rowF t (appE (nmN n)) ps cols (repS nextN (appE (nmN n)) body) (rowsF t cols rs (n+2)).2).1,(rowF t (appE (nmN n)) ps cols (repS nextN (appE (nmN n)) body) (rowsF t cols rs (n+2)).2).2) by rw[rowsF];simp only[ho,if_true]]
   exact rows_openS G hG C0 hb0 hL t har mb tb ca la cols ps body rs H n hc (by omega) r1 r2 r3 hM h0 id g off W hid hmi hW ih hW2 hro' hn ho _ rfl _ rfl
  |false=>
   rw[show rowsF t cols (⟨ps,body⟩::rs) n=rowF t emptyE ps cols body n by rw[rowsF];simp only[ho,Bool.false_eq_true,if_false]]
   exact rows_closedS G hG C0 hb0 hL t har mb tb ca la cols ps body rs H n hc (by omega) r1 r2 r3 hM h0 id g off W hid hmi hW (by omega) ho
theorem CompileS_ok (G:Gl) (hG:GClosed G) (C0:Cx) (hb0:G.base=some C0) (hL:LibAt C0) (t:Tb) (har:∀ c∈t.cons,c.arity≤100) (names:List Str) (first:Int) (rows:List Rw) (id g:Nat) (H:List Blk) (hid:H[id]? =some (.cells g 9 (rwCells rows)))
 (h1:t.cons.length<4294967296) (h2:t.labels.length<4294967296) (h3:names.length<4294967296) (h4:rows.length<4294967296) (hp:∀ r∈rows,(∀ p∈r.pats,p.msr+1<2147483648)∧r.body.wt<2147483648) (hpl:∀ r∈rows,r.pats.length<4294967296) (hbd:first+cntR rows≤1152921504606846976):
 ACall Tryd.prog G 9 [.agg [.list 4 (cnCells t.cons),.list 3 (lbCells t.labels)],.list 1 (names.map .str),.int .i64 first,.sl id g 0 rows.length] H (fun r H'=>H'=H∧r=if badF t names first rows=true then .tuple [.agg emptyE.cells,.int .i64 0,.int .i64 1] else .tuple [.agg (rowsF t names rows first).1.cells,.int .i64 (rowsF t names rows first).2,.int .i64 0]):=by
 have c1:=fun H2=>tabled_ok G hG t H2 h1 h2
 have q1:(names.map SV.str).length=names.length:=by simp
 have q2:=rwCells_len rows
 have q3:=cnCells_len t.cons
 have q4:=lbCells_len t.labels
 have u1:=cnCells_under H.length t.cons
 have u2:=lbCells_under H.length t.labels
 have c2:=fun H2=>contains_list G names [] H2 (by omega)
 have hT:TbAt (H++[Blk.cells 0 2 [.agg [.list 4 (cnCells t.cons),.list 3 (lbCells t.labels)]],Blk.cells 0 1 [.list 1 (names.map .str)],Blk.cells 0 8 [.agg [.int .i64 0,.str [],.int .i64 0,.int .i64 0,.list 1 [],.list 8 [],.list 9 [],.list 12 []]],Blk.map none (consM t.cons),Blk.map (some .pair) (labM t.labels),Blk.cells 0 2 [.agg [.map (H.length+3),.map (H.length+4)]],Blk.cells 0 1 [.ptr (H.length+5) 0 0 0]]) t (H.length+5) (H.length+3) (H.length+4):=⟨by rw[get_app];rfl,by rw[get_app];rfl,by rw[get_app];rfl⟩
 have c3:=anyRwS_ok G hG (.fn (.func 21) [] [.ptr (H.length+1) 0 0 0,.ptr (H.length+6) 0 0 0]) (wrongF t names.length) rows id g (H++[Blk.cells 0 2 [.agg [.list 4 (cnCells t.cons),.list 3 (lbCells t.labels)]],Blk.cells 0 1 [.list 1 (names.map .str)],Blk.cells 0 8 [.agg [.int .i64 0,.str [],.int .i64 0,.int .i64 0,.list 1 [],.list 8 [],.list 9 [],.list 12 []]],Blk.map none (consM t.cons),Blk.map (some .pair) (labM t.labels),Blk.cells 0 2 [.agg [.map (H.length+3),.map (H.length+4)]],Blk.cells 0 1 [.ptr (H.length+5) 0 0 0]]) (get_app_left hid) (by omega) (by simp[SV.under,SV.underL]) (fun r hr=>ACallV.of (by
  have:=wrong_cl G hG t (H.length+5) (H.length+3) (H.length+4) (H++[Blk.cells 0 2 [.agg [.list 4 (cnCells t.cons),.list 3 (lbCells t.labels)]],Blk.cells 0 1 [.list 1 (names.map .str)],Blk.cells 0 8 [.agg [.int .i64 0,.str [],.int .i64 0,.int .i64 0,.list 1 [],.list 8 [],.list 9 [],.list 12 []]],Blk.map none (consM t.cons),Blk.map (some .pair) (labM t.labels),Blk.cells 0 2 [.agg [.map (H.length+3),.map (H.length+4)]],Blk.cells 0 1 [.ptr (H.length+5) 0 0 0]]) hT (H.length+1) (H.length+6) names (by rw[get_app];rfl) (by rw[get_app];rfl) r (hpl r hr) (hp r hr).1
  exact this))
 have c2t:[]∈names→∀ H2,ACall Tryd.prog G 24 [.list 1 (names.map .str),.str []] H2 (fun r H'=>H'=H2∧r= .bool true):=fun hh H2=>by
  have:=c2 H2
  rwa[decide_eq_true hh] at this
 have c2f:[]∉names→∀ H2,ACall Tryd.prog G 24 [.list 1 (names.map .str),.str []] H2 (fun r H'=>H'=H2∧r= .bool false):=fun hh H2=>by
  have:=c2 H2
  rwa[decide_eq_false hh] at this
 clear c2
 have hbf:∀ b,badF t names first rows=b→(decide (first<1)||decide ([]∈names)||rows.any (wrongF t names.length))=b:=fun b h=>h
 have hidl:=(List.getElem?_eq_some_iff.1 hid).1
 have hidL:∀ L,(H++L)[id]? =some (.cells g 9 (rwCells rows)):=fun L=>get_app_left hid
 have u3:SV.underL H.length (rwCells rows)=true:=SV.underL_map fun x _=>by simp[Rw.sv,Rw.cells,SV.under,SV.underL,x.body.cells_under,ndCells_under]
 simp only[tbB] at c1
 refine ACall.of_go TB [] tabOK _ Tryd.func9 rfl (by decide) Tryd.ntmps9 (by simp) rfl (by simp only[initEnv,Nat.reduceAdd];rfl) fun C R' hR hC hcl hB=>?_;have X:=noX;have hC':=congrArg List.length hC
 have X0:=And.intro noX (And.intro (And.intro hid hidL) (And.intro q1 (And.intro q2 (And.intro q3 q4))))
 by_cases g1:first<1
 ·rw[show badF t names first rows=true by simp[badF,g1],if_pos rfl] at hR
  clear c3
  have X:=And.intro X0 g1
  (refine run ?_;with_reducible repeat' first|exact trivial|(apply Fork.mk<;>intro hb)|apply Two.mk)
  exact finS (n0:=H.length) hR hC' hcl (.same _ rfl) ⟨rfl,rfl⟩
 by_cases g2:[]∈names
 ·rw[show badF t names first rows=true by simp[badF,g2],if_pos rfl] at hR
  have c2:=c2t g2
  clear c3
  have X:=And.intro X0 g1
  (refine run ?_;with_reducible repeat' first|exact trivial|(apply Fork.mk<;>intro hb)|apply Two.mk)
  exact finS (n0:=H.length) hR hC' hcl (.same _ rfl) ⟨rfl,rfl⟩
 have c2:=c2f g2
 cases g3:rows.any (wrongF t names.length) with
 |true=>
  rw[show badF t names first rows=true by simp only[badF,g3,Bool.or_true],if_pos rfl] at hR
  rw[g3] at c3
  have X:=And.intro X0 g1
  (refine run ?_;with_reducible repeat' first|exact trivial|(apply Fork.mk<;>intro hb)|apply Two.mk)
  exact finS (n0:=H.length) hR hC' hcl (.same _ rfl) ⟨rfl,rfl⟩
 |false=>
  have hbad:badF t names first rows=false:=by simp only[badF,g3,decide_eq_false g1,decide_eq_false g2,Bool.or_false]
  rw[hbad,if_neg (by simp)] at hR
  rw[g3] at c3
  obtain⟨f1,hro⟩:=badF_rows hbad hp
  have c4:ACall Tryd.prog G 26 [.ptr (H.length+7) 0 0 0,.list 1 (names.map .str),.sl id g 0 rows.length] (H++[Blk.cells 0 2 [.agg [.list 4 (cnCells t.cons),.list 3 (lbCells t.labels)]],Blk.cells 0 1 [.list 1 (names.map .str)],Blk.cells 0 8 [.agg [.int .i64 0,.str [],.int .i64 0,.int .i64 0,.list 1 [],.list 8 [],.list 9 [],.list 12 []]],Blk.map none (consM t.cons),Blk.map (some .pair) (labM t.labels),Blk.cells 0 2 [.agg [.map (H.length+3),.map (H.length+4)]],Blk.cells 0 1 [.ptr (H.length+5) 0 0 0],Blk.cells 0 2 [.agg [.ptr (H.length+5) 0 0 0,.int .i64 first]]]) (fun r H'=>H'=H++[Blk.cells 0 2 [.agg [.list 4 (cnCells t.cons),.list 3 (lbCells t.labels)]],Blk.cells 0 1 [.list 1 (names.map .str)],Blk.cells 0 8 [.agg [.int .i64 0,.str [],.int .i64 0,.int .i64 0,.list 1 [],.list 8 [],.list 9 [],.list 12 []]],Blk.map none (consM t.cons),Blk.map (some .pair) (labM t.labels),Blk.cells 0 2 [.agg [.map (H.length+3),.map (H.length+4)]],Blk.cells 0 1 [.ptr (H.length+5) 0 0 0],Blk.cells 0 2 [.agg [.ptr (H.length+5) 0 0 0,.int .i64 (rowsF t names rows first).2]]]∧r= .agg (rowsF t names rows first).1.cells):=by
   have hT2:=hT.app [Blk.cells 0 2 [.agg [.ptr (H.length+5) 0 0 0,.int .i64 first]]]
   rw[List.append_assoc] at hT2
   have:=rowsS_ok G hG C0 hb0 hL t har (H.length+7) (H.length+5) (H.length+3) (H.length+4) names id g (rwCells rows) rows 0 (H++[Blk.cells 0 2 [.agg [.list 4 (cnCells t.cons),.list 3 (lbCells t.labels)]],Blk.cells 0 1 [.list 1 (names.map .str)],Blk.cells 0 8 [.agg [.int .i64 0,.str [],.int .i64 0,.int .i64 0,.list 1 [],.list 8 [],.list 9 [],.list 12 []]],Blk.map none (consM t.cons),Blk.map (some .pair) (labM t.labels),Blk.cells 0 2 [.agg [.map (H.length+3),.map (H.length+4)]],Blk.cells 0 1 [.ptr (H.length+5) 0 0 0],Blk.cells 0 2 [.agg [.ptr (H.length+5) 0 0 0,.int .i64 first]]]) first h3 h4 hro ⟨hT2,by simp,by omega,by omega,by omega⟩ (by omega) (by omega) (get_app_left hid) (by have:=(List.getElem?_eq_some_iff.1 hid).1;omega) rfl
   rw[set_same (by rw[get_app];rfl)] at this
   simpa only[mkC,set_app,List.set_cons_succ,List.set_cons_zero] using this
  have hR1:=(rowsF t names rows first).1.cells_under H.length
  have hR2:=(rowsF t names rows first).1.cells_len
  have hR3:=(rowsF t names rows first).1.cells_take
  generalize rowsF t names rows first=R1 at*
  obtain⟨r1,n1⟩:=R1
  simp only at c4 hR1 hR2 hR3 hR
  have X:=And.intro X0 (And.intro g1 (And.intro hR2 hR3))
  (refine run ?_;with_reducible repeat' first|exact trivial|(apply Fork.mk<;>intro hb)|apply Two.mk)
  exact finS (n0:=H.length) hR hC' hcl (.same _ (by simp[resSV,SV.under,SV.underL,hR1])) ⟨rfl,rfl⟩
def eqL {α:Type} (p:α→α→Bool):List α→List α→Bool
 |[],[]=>true
 |x::a,y::b=>p x y&&eqL p a b
 |_,_=>false
theorem eqL_iff {α:Type} (p:α→α→Bool):∀ (a b:List α),eqL p a b=true↔a.length=b.length∧∀ i (h:i<a.length) (h':i<b.length),p a[i] b[i]=true
 |[],[]=>by simp[eqL]
 |[],y::b=>by simp[eqL]
 |x::a,[]=>by simp[eqL]
 |x::a,y::b=>by
  simp only[eqL,Bool.and_eq_true,eqL_iff p a b,List.length_cons,Nat.add_right_cancel_iff]
  constructor
  ·rintro⟨h1,h2,h3⟩
   refine⟨h2,fun i h h'=>?_⟩
   cases i with
   |zero=>exact h1
   |succ i=>exact h3 i (by omega) (by omega)
  ·rintro⟨h1,h2⟩
   exact⟨h2 0 (by omega) (by omega),h1,fun i h h'=>h2 (i+1) (by omega) (by omega)⟩
theorem eqL_no {α:Type} {p:α→α→Bool} {a b:List α} (h:a.length≠b.length):eqL p a b=false:=by
 rw[← Bool.not_eq_true,eqL_iff];exact fun k=>h k.1
theorem eqL_at {α:Type} {p:α→α→Bool} {a b:List α} {i:Nat} (h:i<a.length) (h':i<b.length) (k:p a[i] b[i]=false):eqL p a b=false:=by
 rw[← Bool.not_eq_true,eqL_iff];exact fun q=>by have:=q.2 i h h';rw[k] at this;cases this
def strE (x y:Str):Bool:=decide (x=y)
theorem eqStrs_ok (G:Gl) (hG:GClosed G) (a b:List (Str)) (ha:a.length<1125899906842624) (hb0:b.length<1125899906842624) (H:List Blk):
 ACall Tryd.prog G 27 [.list 1 (a.map SV.str),.list 1 (b.map SV.str)] H (fun r H'=>H'=H∧r= .bool (eqL strE a b)):=by
 have h1:(a.map SV.str).length=a.length:=by simp
 have h2:(b.map SV.str).length=b.length:=by simp
 have hA1:∀ k:Nat,(a.map SV.str)[k]? =a[k]?.map SV.str:=fun k=>List.getElem?_map ..
 have hB1:∀ k:Nat,(b.map SV.str)[k]? =b[k]?.map SV.str:=fun k=>List.getElem?_map ..
 have hu1:SV.underL H.length (a.map SV.str)=true:=SV.underL_map fun _ _=>rfl
 have hu2:SV.underL H.length (b.map SV.str)=true:=SV.underL_map fun _ _=>rfl
 generalize a.map SV.str=A at*
 generalize b.map SV.str=B at*
 refine ACall.of_go TB [] tabOK _ Tryd.func27 rfl (by decide) Tryd.ntmps27 (by simp) rfl (by simp only[initEnv,Nat.reduceAdd];rfl) fun C R' hR hC hcl hB=>?_;have X:=noX;have hC':=congrArg List.length hC
 have X:=And.intro X (And.intro h1 h2)
 by_cases hl:a.length=b.length
 ·have hln:((a.length:Int)=(b.length:Int))=True:=by simp[hl]
  have X:=And.intro X hln
  (refine run ?_;with_reducible repeat' first|exact trivial|(apply Fork.mk<;>intro hb)|apply Two.mk)
  clear X
  refine go_loop (fun k:Nat=>[(0,.list 1 A),(1,.list 1 B),(12,.int .i64 a.length),(13,.int .i64 k)]) (fun _=>H) (fun k=>a.length - k) (fun k=>k≤a.length∧∀ i (h:i<a.length) (h':i<b.length),i<k→strE a[i] b[i]=true) 0 ⟨Nat.zero_le _,fun i _ _ h=>by omega⟩ (Wk.sub (by simp[subEnv,look])) ?_
  rintro K k ⟨hk,hall⟩ hK
  rcases Nat.lt_or_ge k a.length with hlt|hge
  ·have hlt2:k<b.length:=by omega
   have e1:A[k]? =some (SV.str a[k]):=by rw[hA1,List.getElem?_eq_getElem hlt];rfl
   have e2:B[k]? =some (SV.str b[k]):=by rw[hB1,List.getElem?_eq_getElem hlt2];rfl
   have hno:=eqL_at (p:=strE) hlt hlt2
   have hyes:strE a[k] b[k]=true→∀ i (h:i<a.length) (h':i<b.length),i<k+1→strE a[i] b[i]=true:=fun h i hi hi' hik=>by
    rcases Nat.lt_or_ge i k with h3|h3
    ·exact hall i hi hi' h3
    ·have:i=k:=by omega
     subst this;exact h
   generalize a[k]=x at*
   generalize b[k]=y at*
   simp only[strE] at hno hyes
   have X:=And.intro noX (And.intro h1 (And.intro h2 (And.intro e1 e2)))
   (refine run ?_;with_reducible repeat' first|exact trivial|(apply Fork.mk<;>intro hb)|apply Two.mk)
   ·refine Fin.out hR ⟨rfl,?_⟩
    rw[hno (by first|(simpa using hb)|(revert hb;simp;done)|(cases h1:decide (x1=y1)<;>cases h2:decide (x2=y2)<;>simp_all;done)|(cases h1:decide (x1=y1)<;>cases h2:decide (x2=y2)<;>cases h3:decide (x3=y3)<;>cases h4:decide (x4=y4)<;>simp_all))];rfl
   ·exact hK _ _ (k+1) (by omega) ⟨by omega,hyes (by first|(simpa using hb)|(revert hb;simp;done)|(cases h1:decide (x1=y1)<;>cases h2:decide (x2=y2)<;>simp_all;done)|(cases h1:decide (x1=y1)<;>cases h2:decide (x2=y2)<;>cases h3:decide (x3=y3)<;>cases h4:decide (x4=y4)<;>simp_all))⟩ (Wk.sub (by simp[subEnv,look]))
  ·have:k=a.length:=by omega
   subst this
   have X:=And.intro noX (Int.lt_irrefl (a.length:Int))
   (refine run ?_;with_reducible repeat' first|exact trivial|(apply Fork.mk<;>intro hb)|apply Two.mk)
   refine Fin.out hR ⟨rfl,?_⟩
   rw[(eqL_iff strE a b).2 ⟨hl,fun i h h'=>hall i h h' h⟩];rfl
 ·have hln:((a.length:Int)=(b.length:Int))=False:=by simp;omega
  have X:=And.intro X hln
  (refine run ?_;with_reducible repeat' first|exact trivial|(apply Fork.mk<;>intro hb)|apply Two.mk)
  refine Fin.out hR ⟨rfl,?_⟩
  rw[eqL_no hl];rfl
theorem eqExF_ok (G:Gl) (hG:GClosed G) (f:SV) (p:Ex→Ex→Bool) (a b:List Ex) (ha:a.length<1125899906842624) (hb0:b.length<1125899906842624) (H:List Blk)
 (hfu:f.under H.length=true) (hf:∀ x∈a,∀ y∈b,∀ L,ACallV Tryd.prog G f [(fun e:Ex=>SV.agg e.cells) x,(fun e:Ex=>SV.agg e.cells) y] (H++L) (fun r H'=>H'=H++L∧r= .bool (p x y))):
 ACall Tryd.prog G 28 [.list 8 (a.map (fun e:Ex=>SV.agg e.cells)),.list 8 (b.map (fun e:Ex=>SV.agg e.cells)),f] H (fun r H'=>H'=H∧r= .bool (eqL p a b)):=by
 have h1:(a.map (fun e:Ex=>SV.agg e.cells)).length=a.length:=by simp
 have h2:(b.map (fun e:Ex=>SV.agg e.cells)).length=b.length:=by simp
 have hu1:SV.underL H.length (a.map (fun e:Ex=>SV.agg e.cells))=true:=SV.underL_map fun i _=>Ex.cells_under _ i
 have hu2:SV.underL H.length (b.map (fun e:Ex=>SV.agg e.cells))=true:=SV.underL_map fun i _=>Ex.cells_under _ i
 refine ACall.of_go TB [] tabOK _ Tryd.func28 rfl (by decide) Tryd.ntmps28 (by simp) rfl (by simp only[initEnv,Nat.reduceAdd];rfl) fun C R' hR hC hcl hB=>?_;have X:=noX;have hC':=congrArg List.length hC
 have X:=And.intro X (And.intro h1 h2)
 by_cases hl:a.length=b.length
 ·have hln:((a.length:Int)=(b.length:Int))=True:=by simp[hl]
  have X:=And.intro X hln
  (refine run ?_;with_reducible repeat' first|exact trivial|(apply Fork.mk<;>intro hb)|apply Two.mk)
  clear X
  refine go_loop (fun k:Nat=>[(0,.list 8 (a.map (fun e:Ex=>SV.agg e.cells))),(1,.list 8 (b.map (fun e:Ex=>SV.agg e.cells))),(2,f),(15,.list 8 (a.map (fun e:Ex=>SV.agg e.cells))),(16,.int .i64 a.length),(17,.int .i64 k)]) (fun _=>H++[]) (fun k=>a.length - k) (fun k=>k≤a.length∧∀ i (h:i<a.length) (h':i<b.length),i<k→p a[i] b[i]=true) 0 ⟨Nat.zero_le _,fun i _ _ h=>by omega⟩ (by rw[List.append_nil];exact Wk.sub (by simp[subEnv,look])) ?_
  rintro K k ⟨hk,hall⟩ hK
  rcases Nat.lt_or_ge k a.length with hlt|hge
  ·have hlt2:k<b.length:=by omega
   have e1:(a.map (fun e:Ex=>SV.agg e.cells))[k]? =some ((fun e:Ex=>SV.agg e.cells) a[k]):=by simp[hlt]
   have e2:(b.map (fun e:Ex=>SV.agg e.cells))[k]? =some ((fun e:Ex=>SV.agg e.cells) b[k]):=by simp[hlt2]
   have hno:=eqL_at (p:=p) hlt hlt2
   have hcall:=hf a[k] (List.getElem_mem hlt) b[k] (List.getElem_mem hlt2)
   have hyes:p a[k] b[k]=true→∀ i (h:i<a.length) (h':i<b.length),i<k+1→p a[i] b[i]=true:=fun h i hi hi' hik=>by
    rcases Nat.lt_or_ge i k with h3|h3
    ·exact hall i hi hi' h3
    ·have:i=k:=by omega
     subst this;exact h
   generalize a[k]=x at*
   generalize b[k]=y at*
   simp only at hcall e1 e2
   have X:=And.intro noX (And.intro h1 (And.intro h2 (And.intro e1 e2)))
   (refine run ?_;with_reducible repeat' first|exact trivial|(apply Fork.mk<;>intro hb)|apply Two.mk)
   refine callV (hcall _) ?_
   rintro r H' ⟨rfl,rfl⟩
   generalize p x y=pv at*
   (refine run ?_;with_reducible repeat' first|exact trivial|(apply Fork.mk<;>intro hb)|apply Two.mk)
   ·refine finS hR hC' hcl (.same _ ?_) ⟨rfl,?_⟩
    ·rfl
    ·rw[hno (by simpa using hb)];rfl
   ·exact hK _ _ (k+1) (by omega) ⟨by omega,hyes (by simpa using hb)⟩ (wkS (n0:=H.length) [] hG hB hC' hcl)
  ·have:k=a.length:=by omega
   subst this
   have X:=And.intro noX (Int.lt_irrefl (a.length:Int))
   (refine run ?_;with_reducible repeat' first|exact trivial|(apply Fork.mk<;>intro hb)|apply Two.mk)
   refine Fin.out hR ⟨List.append_nil _,?_⟩
   rw[(eqL_iff p a b).2 ⟨hl,fun i h h'=>hall i h h' h⟩];rfl
 ·have hln:((a.length:Int)=(b.length:Int))=False:=by simp;omega
  have X:=And.intro X hln
  (refine run ?_;with_reducible repeat' first|exact trivial|(apply Fork.mk<;>intro hb)|apply Two.mk)
  refine Fin.out hR ⟨rfl,?_⟩
  rw[eqL_no hl];rfl
theorem eqBdF_ok (G:Gl) (hG:GClosed G) (f:SV) (p:Bd→Bd→Bool) (a b:List Bd) (ha:a.length<1125899906842624) (hb0:b.length<1125899906842624) (H:List Blk)
 (hfu:f.under H.length=true) (hf:∀ x∈a,∀ y∈b,∀ L,ACallV Tryd.prog G f [(fun b:Bd=>SV.agg b.cells) x,(fun b:Bd=>SV.agg b.cells) y] (H++L) (fun r H'=>H'=H++L∧r= .bool (p x y))):
 ACall Tryd.prog G 29 [.list 9 (a.map (fun b:Bd=>SV.agg b.cells)),.list 9 (b.map (fun b:Bd=>SV.agg b.cells)),f] H (fun r H'=>H'=H∧r= .bool (eqL p a b)):=by
 have h1:(a.map (fun b:Bd=>SV.agg b.cells)).length=a.length:=by simp
 have h2:(b.map (fun b:Bd=>SV.agg b.cells)).length=b.length:=by simp
 have hu1:SV.underL H.length (a.map (fun b:Bd=>SV.agg b.cells))=true:=SV.underL_map fun i _=>Bd.cells_under _ i
 have hu2:SV.underL H.length (b.map (fun b:Bd=>SV.agg b.cells))=true:=SV.underL_map fun i _=>Bd.cells_under _ i
 refine ACall.of_go TB [] tabOK _ Tryd.func29 rfl (by decide) Tryd.ntmps29 (by simp) rfl (by simp only[initEnv,Nat.reduceAdd];rfl) fun C R' hR hC hcl hB=>?_;have X:=noX;have hC':=congrArg List.length hC
 have X:=And.intro X (And.intro h1 h2)
 by_cases hl:a.length=b.length
 ·have hln:((a.length:Int)=(b.length:Int))=True:=by simp[hl]
  have X:=And.intro X hln
  (refine run ?_;with_reducible repeat' first|exact trivial|(apply Fork.mk<;>intro hb)|apply Two.mk)
  clear X
  refine go_loop (fun k:Nat=>[(0,.list 9 (a.map (fun b:Bd=>SV.agg b.cells))),(1,.list 9 (b.map (fun b:Bd=>SV.agg b.cells))),(2,f),(15,.list 9 (a.map (fun b:Bd=>SV.agg b.cells))),(16,.int .i64 a.length),(17,.int .i64 k)]) (fun _=>H++[]) (fun k=>a.length - k) (fun k=>k≤a.length∧∀ i (h:i<a.length) (h':i<b.length),i<k→p a[i] b[i]=true) 0 ⟨Nat.zero_le _,fun i _ _ h=>by omega⟩ (by rw[List.append_nil];exact Wk.sub (by simp[subEnv,look])) ?_
  rintro K k ⟨hk,hall⟩ hK
  rcases Nat.lt_or_ge k a.length with hlt|hge
  ·have hlt2:k<b.length:=by omega
   have e1:(a.map (fun b:Bd=>SV.agg b.cells))[k]? =some ((fun b:Bd=>SV.agg b.cells) a[k]):=by simp[hlt]
   have e2:(b.map (fun b:Bd=>SV.agg b.cells))[k]? =some ((fun b:Bd=>SV.agg b.cells) b[k]):=by simp[hlt2]
   have hno:=eqL_at (p:=p) hlt hlt2
   have hcall:=hf a[k] (List.getElem_mem hlt) b[k] (List.getElem_mem hlt2)
   have hyes:p a[k] b[k]=true→∀ i (h:i<a.length) (h':i<b.length),i<k+1→p a[i] b[i]=true:=fun h i hi hi' hik=>by
    rcases Nat.lt_or_ge i k with h3|h3
    ·exact hall i hi hi' h3
    ·have:i=k:=by omega
     subst this;exact h
   generalize a[k]=x at*
   generalize b[k]=y at*
   simp only at hcall e1 e2
   have X:=And.intro noX (And.intro h1 (And.intro h2 (And.intro e1 e2)))
   (refine run ?_;with_reducible repeat' first|exact trivial|(apply Fork.mk<;>intro hb)|apply Two.mk)
   refine callV (hcall _) ?_
   rintro r H' ⟨rfl,rfl⟩
   generalize p x y=pv at*
   (refine run ?_;with_reducible repeat' first|exact trivial|(apply Fork.mk<;>intro hb)|apply Two.mk)
   ·refine finS hR hC' hcl (.same _ ?_) ⟨rfl,?_⟩
    ·rfl
    ·rw[hno (by simpa using hb)];rfl
   ·exact hK _ _ (k+1) (by omega) ⟨by omega,hyes (by simpa using hb)⟩ (wkS (n0:=H.length) [] hG hB hC' hcl)
  ·have:k=a.length:=by omega
   subst this
   have X:=And.intro noX (Int.lt_irrefl (a.length:Int))
   (refine run ?_;with_reducible repeat' first|exact trivial|(apply Fork.mk<;>intro hb)|apply Two.mk)
   refine Fin.out hR ⟨List.append_nil _,?_⟩
   rw[(eqL_iff p a b).2 ⟨hl,fun i h h'=>hall i h h' h⟩];rfl
 ·have hln:((a.length:Int)=(b.length:Int))=False:=by simp;omega
  have X:=And.intro X hln
  (refine run ?_;with_reducible repeat' first|exact trivial|(apply Fork.mk<;>intro hb)|apply Two.mk)
  refine Fin.out hR ⟨rfl,?_⟩
  rw[eqL_no hl];rfl
theorem eqAlF_ok (G:Gl) (hG:GClosed G) (f:SV) (p:Al→Al→Bool) (a b:List Al) (ha:a.length<1125899906842624) (hb0:b.length<1125899906842624) (H:List Blk)
 (hfu:f.under H.length=true) (hf:∀ x∈a,∀ y∈b,∀ L,ACallV Tryd.prog G f [(fun a:Al=>SV.agg a.cells) x,(fun a:Al=>SV.agg a.cells) y] (H++L) (fun r H'=>H'=H++L∧r= .bool (p x y))):
 ACall Tryd.prog G 31 [.list 12 (a.map (fun a:Al=>SV.agg a.cells)),.list 12 (b.map (fun a:Al=>SV.agg a.cells)),f] H (fun r H'=>H'=H∧r= .bool (eqL p a b)):=by
 have h1:(a.map (fun a:Al=>SV.agg a.cells)).length=a.length:=by simp
 have h2:(b.map (fun a:Al=>SV.agg a.cells)).length=b.length:=by simp
 have hu1:SV.underL H.length (a.map (fun a:Al=>SV.agg a.cells))=true:=SV.underL_map fun i _=>Al.cells_under _ i
 have hu2:SV.underL H.length (b.map (fun a:Al=>SV.agg a.cells))=true:=SV.underL_map fun i _=>Al.cells_under _ i
 refine ACall.of_go TB [] tabOK _ Tryd.func31 rfl (by decide) Tryd.ntmps31 (by simp) rfl (by simp only[initEnv,Nat.reduceAdd];rfl) fun C R' hR hC hcl hB=>?_;have X:=noX;have hC':=congrArg List.length hC
 have X:=And.intro X (And.intro h1 h2)
 by_cases hl:a.length=b.length
 ·have hln:((a.length:Int)=(b.length:Int))=True:=by simp[hl]
  have X:=And.intro X hln
  (refine run ?_;with_reducible repeat' first|exact trivial|(apply Fork.mk<;>intro hb)|apply Two.mk)
  clear X
  refine go_loop (fun k:Nat=>[(0,.list 12 (a.map (fun a:Al=>SV.agg a.cells))),(1,.list 12 (b.map (fun a:Al=>SV.agg a.cells))),(2,f),(15,.list 12 (a.map (fun a:Al=>SV.agg a.cells))),(16,.int .i64 a.length),(17,.int .i64 k)]) (fun _=>H++[]) (fun k=>a.length - k) (fun k=>k≤a.length∧∀ i (h:i<a.length) (h':i<b.length),i<k→p a[i] b[i]=true) 0 ⟨Nat.zero_le _,fun i _ _ h=>by omega⟩ (by rw[List.append_nil];exact Wk.sub (by simp[subEnv,look])) ?_
  rintro K k ⟨hk,hall⟩ hK
  rcases Nat.lt_or_ge k a.length with hlt|hge
  ·have hlt2:k<b.length:=by omega
   have e1:(a.map (fun a:Al=>SV.agg a.cells))[k]? =some ((fun a:Al=>SV.agg a.cells) a[k]):=by simp[hlt]
   have e2:(b.map (fun a:Al=>SV.agg a.cells))[k]? =some ((fun a:Al=>SV.agg a.cells) b[k]):=by simp[hlt2]
   have hno:=eqL_at (p:=p) hlt hlt2
   have hcall:=hf a[k] (List.getElem_mem hlt) b[k] (List.getElem_mem hlt2)
   have hyes:p a[k] b[k]=true→∀ i (h:i<a.length) (h':i<b.length),i<k+1→p a[i] b[i]=true:=fun h i hi hi' hik=>by
    rcases Nat.lt_or_ge i k with h3|h3
    ·exact hall i hi hi' h3
    ·have:i=k:=by omega
     subst this;exact h
   generalize a[k]=x at*
   generalize b[k]=y at*
   simp only at hcall e1 e2
   have X:=And.intro noX (And.intro h1 (And.intro h2 (And.intro e1 e2)))
   (refine run ?_;with_reducible repeat' first|exact trivial|(apply Fork.mk<;>intro hb)|apply Two.mk)
   refine callV (hcall _) ?_
   rintro r H' ⟨rfl,rfl⟩
   generalize p x y=pv at*
   (refine run ?_;with_reducible repeat' first|exact trivial|(apply Fork.mk<;>intro hb)|apply Two.mk)
   ·refine finS hR hC' hcl (.same _ ?_) ⟨rfl,?_⟩
    ·rfl
    ·rw[hno (by simpa using hb)];rfl
   ·exact hK _ _ (k+1) (by omega) ⟨by omega,hyes (by simpa using hb)⟩ (wkS (n0:=H.length) [] hG hB hC' hcl)
  ·have:k=a.length:=by omega
   subst this
   have X:=And.intro noX (Int.lt_irrefl (a.length:Int))
   (refine run ?_;with_reducible repeat' first|exact trivial|(apply Fork.mk<;>intro hb)|apply Two.mk)
   refine Fin.out hR ⟨List.append_nil _,?_⟩
   rw[(eqL_iff p a b).2 ⟨hl,fun i h h'=>hall i h h' h⟩];rfl
 ·have hln:((a.length:Int)=(b.length:Int))=False:=by simp;omega
  have X:=And.intro X hln
  (refine run ?_;with_reducible repeat' first|exact trivial|(apply Fork.mk<;>intro hb)|apply Two.mk)
  refine Fin.out hR ⟨rfl,?_⟩
  rw[eqL_no hl];rfl
def bdB (s1 s2:Str) (z:Bool):Bool:=decide (s1=s2)&&z
def alB (k1 k2:Int) (s1 s2:Str) (n1 n2:Int) (z2 z:Bool):Bool:=(((decide (k1=k2)&&decide (s1=s2))&&decide (n1=n2))&&z2)&&z
def smB (k1 k2:Int) (s1 s2:Str) (n1 n2 o1 o2:Int) (z1 z2 z3 z4:Bool):Bool:=((((((decide (k1=k2)&&decide (s1=s2))&&decide (n1=n2))&&decide (o1=o2))&&z1)&&z2)&&z3)&&z4
def bdP (p:Ex→Ex→Bool) (x y:Bd):Bool:=bdB x.name y.name (p x.e y.e)
def alP (p:Ex→Ex→Bool) (x y:Al):Bool:=alB x.kind y.kind x.name y.name x.n y.n (eqL strE x.names y.names) (p x.body y.body)
def smE:Nat→Ex→Ex→Bool
 |0,_,_=>false
 |m+1,.mk k1 s1 n1 o1 l1 u1 b1 a1,.mk k2 s2 n2 o2 l2 u2 b2 a2=>
  smB k1 k2 s1 s2 n1 n2 o1 o2 (eqL strE l1 l2) (eqL (smE m) u1 u2) (eqL (bdP (smE m)) b1 b2) (eqL (alP (smE m)) a1 a2)
def SmC (G:Gl) (m:Nat):Prop:=∀ (a b:Ex) (H:List Blk),a.wt≤m→a.wt<549755813888→b.wt<549755813888→ACall Tryd.prog G 10 [a.sv,b.sv] H (fun r H'=>H'=H∧r= .bool (smE m a b))
theorem sameBd_ok (G:Gl) (hG:GClosed G) (m:Nat) (hrec:SmC G m) (x y:Bd) (hx:x.wt≤m) (hx2:x.wt<549755813888) (hy:y.wt<549755813888) (H:List Blk):ACall Tryd.prog G 30 [.agg x.cells,.agg y.cells] H (fun r H'=>H'=H∧r= .bool (bdP (smE m) x y)):=by
 have h1:=x.wt_gt
 have h2:=y.wt_gt
 have c1:=fun H=>hrec x.e y.e H (by omega) (by omega) (by omega)
 obtain⟨s1,e1⟩:=x
 obtain⟨s2,e2⟩:=y
 simp only[Bd.e,Bd.cells,bdP,Bd.name] at*
 generalize smE m e1 e2=z at*
 refine ACall.of_go TB [] tabOK _ Tryd.func30 rfl (by decide) Tryd.ntmps30 (by simp) rfl (by simp only[initEnv,Nat.reduceAdd];rfl) fun C R' hR hC hcl hB=>?_;have X:=noX;have hC':=congrArg List.length hC
 (refine run ?_;with_reducible repeat' first|exact trivial|(apply Fork.mk<;>intro hb)|apply Two.mk)
 all_goals
  refine finS hR hC' hcl (.same _ rfl) ⟨rfl,?_⟩
  unfold bdB
  simp_all [resSV]
theorem sameAl_ok (G:Gl) (hG:GClosed G) (m:Nat) (hrec:SmC G m) (x y:Al) (hx:x.wt≤m) (hx2:x.wt<549755813888) (hy:y.wt<549755813888) (H:List Blk):ACall Tryd.prog G 32 [.agg x.cells,.agg y.cells] H (fun r H'=>H'=H∧r= .bool (alP (smE m) x y)):=by
 have h1:=x.wt_gt
 have h2:=y.wt_gt
 have h3:=x.wt_names
 have h4:=y.wt_names
 have c1:=fun H=>hrec x.body y.body H (by omega) (by omega) (by omega)
 have c2:=fun H=>eqStrs_ok G hG x.names y.names (by omega) (by omega) H
 obtain⟨k1,s1,n1,l1,e1⟩:=x
 obtain⟨k2,s2,n2,l2,e2⟩:=y
 simp only[Al.body,Al.cells,alP,Al.name,Al.kind,Al.n,Al.names] at*
 generalize smE m e1 e2=z at*
 generalize eqL strE l1 l2=z2 at*
 refine ACall.of_go TB [] tabOK _ Tryd.func32 rfl (by decide) Tryd.ntmps32 (by simp) rfl (by simp only[initEnv,Nat.reduceAdd];rfl) fun C R' hR hC hcl hB=>?_;have X:=noX;have hC':=congrArg List.length hC
 (refine run ?_;with_reducible repeat' first|exact trivial|(apply Fork.mk<;>intro hb)|apply Two.mk)
 all_goals
  refine finS hR hC' hcl (.same _ rfl) ⟨rfl,?_⟩
  unfold alB
  simp_all [resSV]
theorem same_ok (G:Gl) (hG:GClosed G):∀ m,SmC G m
 |0,a,b,H,h,_,_=>absurd a.wt_pos (by omega)
 |m+1,a,b,H,hm,ha,hb=>by
  have hrec:=same_ok G hG m
  obtain⟨k1,s1,n1,o1,l1,u1,b1,a1⟩:=a
  obtain⟨k2,s2,n2,o2,l2,u2,b2,a2⟩:=b
  have hle1:=Ex.wt_lens k1 s1 n1 o1 l1 u1 b1 a1
  have hle2:=Ex.wt_lens k2 s2 n2 o2 l2 u2 b2 a2
  have hw1:(Ex.mk k1 s1 n1 o1 l1 u1 b1 a1).wt=1+s1.length+strsWt l1+exsWt u1+bdsWt b1+alsWt a1:=by simp only[Ex.wt]
  have hw2:(Ex.mk k2 s2 n2 o2 l2 u2 b2 a2).wt=1+s2.length+strsWt l2+exsWt u2+bdsWt b2+alsWt a2:=by simp only[Ex.wt]
  have c1:=fun H=>eqStrs_ok G hG l1 l2 (by omega) (by omega) H
  have c2:=fun H=>eqExF_ok G hG (.fn (.func 10) [] []) (smE m) u1 u2 (by omega) (by omega) H rfl (fun x hx y hy L=>by
   have:=exsWt_mem hx
   have:=exsWt_mem hy
   exact ACallV.of (first:=[]) (args:=[SV.agg x.cells,SV.agg y.cells]) (cap:=[]) (hrec x y (H++L) (by omega) (by omega) (by omega)))
  have c3:=fun H=>eqBdF_ok G hG (.fn (.func 30) [] []) (bdP (smE m)) b1 b2 (by omega) (by omega) H rfl (fun x hx y hy L=>by
   have:=bdsWt_mem hx
   have:=bdsWt_mem hy
   exact ACallV.of (first:=[]) (args:=[SV.agg x.cells,SV.agg y.cells]) (cap:=[]) (sameBd_ok G hG m hrec x y (by omega) (by omega) (by omega) (H++L)))
  have c4:=fun H=>eqAlF_ok G hG (.fn (.func 32) [] []) (alP (smE m)) a1 a2 (by omega) (by omega) H rfl (fun x hx y hy L=>by
   have:=alsWt_mem hx
   have:=alsWt_mem hy
   exact ACallV.of (first:=[]) (args:=[SV.agg x.cells,SV.agg y.cells]) (cap:=[]) (sameAl_ok G hG m hrec x y (by omega) (by omega) (by omega) (H++L)))
  have f1:∀ l:List Ex,l.map (fun e:Ex=>SV.agg e.cells)=exCells l:=fun l=>(exCells_map l).symm
  have f2:∀ l:List Bd,l.map (fun e:Bd=>SV.agg e.cells)=bdCells l:=fun l=>(bdCells_map l).symm
  have f3:∀ l:List Al,l.map (fun e:Al=>SV.agg e.cells)=alCells l:=fun l=>(alCells_map l).symm
  simp only[f1] at c2
  simp only[f2] at c3
  simp only[f3] at c4
  have e0:smE (m+1) (.mk k1 s1 n1 o1 l1 u1 b1 a1) (.mk k2 s2 n2 o2 l2 u2 b2 a2)=smB k1 k2 s1 s2 n1 n2 o1 o2 (eqL strE l1 l2) (eqL (smE m) u1 u2) (eqL (bdP (smE m)) b1 b2) (eqL (alP (smE m)) a1 a2):=rfl
  rw[e0]
  clear e0 f1 f2 f3
  generalize eqL strE l1 l2=z1 at*
  generalize eqL (smE m) u1 u2=z2 at*
  generalize eqL (bdP (smE m)) b1 b2=z3 at*
  generalize eqL (alP (smE m)) a1 a2=z4 at*
  refine ACall.of_go TB [] tabOK _ Tryd.func10 rfl (by decide) Tryd.ntmps10 (by simp) rfl (by simp only[initEnv,Nat.reduceAdd];rfl) fun C R' hR hC hcl hB=>?_;have X:=noX;have hC':=congrArg List.length hC
  (refine run ?_;with_reducible repeat' first|exact trivial|(apply Fork.mk<;>intro hb)|apply Two.mk)
  all_goals
   refine finS hR hC' hcl (.same _ rfl) ⟨rfl,?_⟩
   unfold smB
   simp_all [resSV]
theorem eqL_self {α:Type} {p:α→α→Bool}:∀ {l:List α},(∀ x∈l,p x x=true)→eqL p l l=true
 |[],_=>rfl
 |x::r,h=>by
  rw[eqL,h x (List.mem_cons_self ..),eqL_self fun y hy=>h y (List.mem_cons_of_mem _ hy)];rfl
theorem strE_self (l:List Str):eqL strE l l=true:=eqL_self fun x _=>by simp[strE]
theorem smE_self:∀ (m:Nat) (e:Ex),e.wt≤m→smE m e e=true
 |0,e,h=>absurd e.wt_pos (by omega)
 |m+1,e,h=>by
  have hp:∀ p∈e.parts,smE m p p=true:=fun p hp=>smE_self m p (by have:=Ex.wt_parts hp;omega)
  obtain⟨kd,nm,nn,op,names,subs,binds,alts⟩:=e
  rw[Ex.parts_mk] at hp
  have h1:eqL (smE m) subs subs=true:=eqL_self fun x hx=>hp x (by simp[hx])
  have h2:eqL (bdP (smE m)) binds binds=true:=eqL_self fun b hb=>by
   have:=hp b.e (by simp;exact .inr (.inl ⟨b,hb,rfl⟩))
   simp[bdP,bdB,this]
  have h3:eqL (alP (smE m)) alts alts=true:=eqL_self fun a ha=>by
   have:=hp a.body (by simp;exact .inr (.inr ⟨a,ha,rfl⟩))
   simp[alP,alB,this,strE_self]
  rw[smE,h1,h2,h3,strE_self]
  simp[smB]
def cmE (t:Tb) (names:List Str) (first:Int) (rows:List Rw):Ex:=if badF t names first rows=true then emptyE else (rowsF t names rows first).1
def cmN (t:Tb) (names:List Str) (first:Int) (rows:List Rw):Int:=if badF t names first rows=true then 0 else (rowsF t names rows first).2
def cmC (t:Tb) (names:List Str) (first:Int) (rows:List Rw):Int:=if badF t names first rows=true then 1 else 0
theorem cm_eq (t:Tb) (names:List Str) (first:Int) (rows:List Rw):(if badF t names first rows=true then SV.tuple [.agg emptyE.cells,.int .i64 0,.int .i64 1] else .tuple [.agg (rowsF t names rows first).1.cells,.int .i64 (rowsF t names rows first).2,.int .i64 0])= .tuple [.agg (cmE t names first rows).cells,.int .i64 (cmN t names first rows),.int .i64 (cmC t names first rows)]:=by
 unfold cmE cmN cmC
 split<;>rfl
theorem rwCells_app (a b:List Rw):rwCells (a++b)=rwCells a++rwCells b:=by simp[rwCells]
def RwB (rs:List Rw):Prop:=rs.length≤1048576∧∀ r∈rs,r.body.wt≤1048576∧r.pats.length≤1048576∧∀ p∈r.pats,p.wt≤1048576
theorem msrN_le {ps:List Nd} (h:∀ p∈ps,p.wt≤2000):msrN ps≤10000*ps.length:=by
 induction ps with
 |nil=>simp[msrN]
 |cons x r ih=>
  have h1:=ih (fun p hp=>h p (List.mem_cons_of_mem _ hp))
  have h2:=Nd.msr_le.1 x
  have h3:=h x (List.mem_cons_self ..)
  simp only[msrN,List.map_cons,List.sum_cons,List.length_cons] at h1 ⊢
  omega
theorem cntR_le {rs:List Rw} (h:∀ r∈rs,RowFew r):cntR rs≤20200002*rs.length:=by
 induction rs with
 |nil=>simp[cntR]
 |cons x r ih=>
  have h1:=ih (fun p hp=>h p (List.mem_cons_of_mem _ hp))
  obtain⟨h2,h3⟩:=h x (List.mem_cons_self ..)
  have h4:=msrN_le h3
  simp only[cntR,List.map_cons,List.sum_cons,List.length_cons] at h1 ⊢
  omega
theorem colsWt_le (l:List Str) (h:l.length≤20):colsWt l≤strsWt l+440:=by
 have:∀ l:List Str,colsWt l≤strsWt l+22*l.length:=by
  intro l
  induction l with
  |nil=>exact Nat.le_refl _
  |cons s r ih=>simp only[colsWt,strsWt,List.length_cons];omega
 have:=this l
 omega
theorem stops_eq (t:Tb) (names:List Str) (first:Int) (rows more:List Rw) (hnw:strsWt names≤1048576) (hrb:RwB rows) (hfr:FewP t rows) (hfm:FewP t more) (hnl:names.length≤20) (hf1:first≤1099511627776) (last:Rw) (hlast:rows.getLast?=some last) (hopen:openR t last=false) (h1:cmC t names first rows=0) (h2:cmC t names first (rows++more)=0):
 cmE t names first rows=cmE t names first (rows++more)∧cmN t names first rows=cmN t names first (rows++more)∧(cmE t names first rows).wt<549755813888:=by
 have hb1:badF t names first rows=false:=by
  unfold cmC at h1
  split at h1
  ·cases h1
  ·rename_i h;simpa using h
 have hb2:badF t names first (rows++more)=false:=by
  unfold cmC at h2
  split at h2
  ·cases h2
  ·rename_i h;simpa using h
 unfold cmE cmN
 rw[hb1,hb2,rowsF_stop more hlast hopen]
 simp only[Bool.false_eq_true,if_false,true_and]
 have hms:∀ r∈rows,(∀ p∈r.pats,p.msr≤10000)∧r.pats.length≤20∧r.body.wt≤1048576:=fun r hr=>by
  obtain⟨a1,a2⟩:=hfr.2.1 r hr
  exact⟨fun p hp=>by have:=a2 p hp;have:=Nd.msr_le.1 p;omega,a1,(hrb.2 r hr).1⟩
 obtain⟨g1,g2⟩:=badF_rows hb1 (fun r hr=>⟨fun p hp=>by have:=(hms r hr).1 p hp;omega,by have:=(hms r hr).2.2;omega⟩)
 have hcn:=cntR_le hfr.2.1
 have hl30:=hfr.1
 have:=rowsF_wt hfr.2.2 names 1048576 rows g2 hms 1152921504606846976 (by omega) first (by omega) (by omega)
 have hcw:=colsWt_le names hnl
 have h5:rows.length*(100+32*1048576+10000*(colsWt names+20*4600))≤30*(100+32*1048576+10000*(1048576+440+20*4600)):=Nat.mul_le_mul hl30 (by omega)
 omega
theorem matchStops_ok (G:Gl) (hG:GClosed G) (C0:Cx) (hb0:G.base=some C0) (hL:LibAt C0) (t:Tb) (names:List Str) (first:Int) (rows more:List Rw) (H:List Blk) (hc:t.cons.length≤1048576) (hl:t.labels.length≤1048576) (hnw:strsWt names≤1048576) (hrb:RwB rows) (hmb:RwB more):
 ACall Tryd.prog G 3 [.agg [.list 4 (cnCells t.cons),.list 3 (lbCells t.labels)],.agg [.list 1 (names.map .str),.int .i64 first,.list 9 (rwCells rows)],.list 9 (rwCells more)] H (fun r H'=>H'=H∧r= .bool true):=by
 have hnl:=strsWt_len names
 have c1:=fun H2=>awake_ok G hG C0 hb0 hL H2
 have q1:(names.map SV.str).length=names.length:=by simp
 have q2:=rwCells_len rows
 have q3:=cnCells_len t.cons
 have q4:=lbCells_len t.labels
 have q5:=rwCells_len more
 have u1:=cnCells_under H.length t.cons
 have u2:=lbCells_under H.length t.labels
 have u3:SV.underL H.length (rwCells rows)=true:=SV.underL_map fun x _=>by simp[Rw.sv,Rw.cells,SV.under,SV.underL,x.body.cells_under,ndCells_under]
 have u4:SV.underL H.length (rwCells more)=true:=SV.underL_map fun x _=>by simp[Rw.sv,Rw.cells,SV.under,SV.underL,x.body.cells_under,ndCells_under]
 have u5:SV.underL H.length (names.map SV.str)=true:=SV.underL_map fun _ _=>rfl
 have f1:=fun H2=>few_ok G hG t rows H2 (by omega) (by omega) (by have:=hrb.1;omega) (fun r hr=>by have:=hrb.2 r hr;exact⟨by omega,by omega,fun p hp=>by have:=this.2.2 p hp;omega⟩)
 have f2:=fun H2=>few_ok G hG t more H2 (by omega) (by omega) (by have:=hmb.1;omega) (fun r hr=>by have:=hmb.2 r hr;exact⟨by omega,by omega,fun p hp=>by have:=this.2.2 p hp;omega⟩)
 have hrl:=hrb.1
 have hml:=hmb.1
 refine ACall.of_go TB [91] tabOK _ Tryd.func3 rfl (by decide) Tryd.ntmps3 (by simp) rfl (by simp only[initEnv,Nat.reduceAdd];rfl) fun C R' hR hC hcl hB=>?_;have X:=noX;have hC':=congrArg List.length hC
 have X0:=And.intro noX (And.intro q1 (And.intro q2 (And.intro q3 (And.intro q4 q5))))
 have X:=X0
 (refine run ?_;with_reducible repeat' first|exact trivial|(apply Fork.mk<;>intro hb)|apply Two.mk)
 refine callS (f1 _) ?_
 rintro r H' ⟨rfl,b1,rfl,hb1⟩
 cases b1 with
 |false=>
  have X:=X0
  (refine run ?_;with_reducible repeat' first|exact trivial|(apply Fork.mk<;>intro hb)|apply Two.mk)
  exact finS (n0:=H.length) hR hC' hcl (.same _ rfl) ⟨rfl,rfl⟩
 |true=>
 have X:=X0
 (refine run ?_;with_reducible repeat' first|exact trivial|(apply Fork.mk<;>intro hb)|apply Two.mk)
 refine callS (f2 _) ?_
 rintro r H' ⟨rfl,b2,rfl,hb2⟩
 cases b2 with
 |false=>
  have X:=X0
  (refine run ?_;with_reducible repeat' first|exact trivial|(apply Fork.mk<;>intro hb)|apply Two.mk)
  exact finS (n0:=H.length) hR hC' hcl (.same _ rfl) ⟨rfl,rfl⟩
 |true=>
 have hfr:=hb1 rfl
 have hfm:=hb2 rfl
 clear hb1 hb2 f1 f2
 by_cases g1:names.length≤20
 case neg=>
  have X:=And.intro X0 (show(20:Int)<names.length by omega)
  (refine run ?_;with_reducible repeat' first|exact trivial|(apply Fork.mk<;>intro hb)|apply Two.mk)
  exact finS (n0:=H.length) hR hC' hcl (.same _ rfl) ⟨rfl,rfl⟩
 by_cases g2:rows.length=0
 case pos=>
  have X:=And.intro X0 (And.intro (show ¬ (20:Int)<names.length by omega) (show(rows.length:Int)=0 by omega))
  (refine run ?_;with_reducible repeat' first|exact trivial|(apply Fork.mk<;>intro hb)|apply Two.mk)
  exact finS (n0:=H.length) hR hC' hcl (.same _ rfl) ⟨rfl,rfl⟩
 by_cases g3:first≤1099511627776
 case neg=>
  have X:=And.intro X0 (And.intro (show ¬ (20:Int)<names.length by omega) (And.intro (show ¬ (rows.length:Int)=0 by omega) (show(1099511627776:Int)<first by omega)))
  (refine run ?_;with_reducible repeat' first|exact trivial|(apply Fork.mk<;>intro hb)|apply Two.mk)
  exact finS (n0:=H.length) hR hC' hcl (.same _ rfl) ⟨rfl,rfl⟩
 obtain⟨last,hlast⟩:∃ last,rows.getLast?=some last:=by
  cases rows with
  |nil=>exact absurd rfl g2
  |cons x r=>exact⟨_,List.getLast?_eq_some_getLast (by simp)⟩
 obtain⟨kl,hkl⟩:∃ kl,rows.length=kl+1:=⟨rows.length - 1,by omega⟩
 have e1:(rwCells rows)[kl]? =some (.agg (.list 6 (ndCells last.pats)::last.body.cells)):=by
  rw[rwCells_get2]
  have:rows[kl]? =some last:=by rw[List.getLast?_eq_getElem?,hkl] at hlast;exact hlast
  rw[this];rfl
 have hlm:last∈rows:=List.mem_of_getLast? hlast
 obtain⟨l1,l2,l3⟩:=hrb.2 last hlm
 obtain⟨l4,l5⟩:=hfr.2.1 last hlm
 obtain⟨ps,body⟩:=last
 simp only at e1 l1 l2 l3 l4 l5
 have e3:=body.cells_len
 have e4:=body.cells_take
 have q6:=ndCells_len ps
 have u6:=body.cells_under H.length
 have u7:=ndCells_under H.length ps
 have X:=And.intro X0 (And.intro (show ¬ (20:Int)<names.length by omega) (And.intro (show ¬ (rows.length:Int)=0 by omega) (And.intro (show ¬ (1099511627776:Int)<first by omega) (And.intro (show(rows.length:Int) - 1=kl by omega) (And.intro e1 (And.intro e3 e4))))))
 (refine run ?_;with_reducible repeat' first|exact trivial|(apply Fork.mk<;>intro hb)|apply Two.mk)
 refine go_loop (fun i:Nat=>[(2,.list 9 (rwCells more)),(3,.ptr H.length 0 0 0),(4,.ptr (H.length+1) 0 0 0),(7,.ptr (H.length+2) 0 0 0),(8,.int .i64 i)]) (fun _=>H++[Blk.cells 0 2 [.agg [.list 4 (cnCells t.cons),.list 3 (lbCells t.labels)]],Blk.cells 0 3 [.agg [.list 1 (names.map .str),.int .i64 first,.list 9 (rwCells rows)]],Blk.cells 0 9 [.agg (.list 6 (ndCells ps)::body.cells)]]) (fun i=>ps.length - i) (fun i=>i≤ps.length∧∀ p∈ps.take i,(rgtF t (p.msr+1) p).2=true) 0 ⟨Nat.zero_le _,by simp⟩ ?_ ?_
 ·exact Wk.sub (by simp[subEnv,look])
 rintro K i ⟨hi,hall⟩ hK
 rcases Nat.lt_or_ge i ps.length with hlt|hge
 ·have e5:(ndCells ps)[i]? =some (.agg ps[i].cells):=by rw[ndCells_get2,List.getElem?_eq_getElem hlt];rfl
  have hall3:(rgtF t (ps[i].msr+1) ps[i]).2=true→∀ p∈ps.take (i+1),(rgtF t (p.msr+1) p).2=true:=fun h p hp=>by
   rw[List.take_succ_eq_append_getElem hlt] at hp
   rcases List.mem_append.1 hp with hp|hp
   ·exact hall p hp
   ·rw[List.mem_singleton.1 hp];exact h
  have c2:=fun H2=>Sure_ok G hG t ps[i] H2 (by omega) (by omega) (by have:=l5 _ (List.getElem_mem hlt);have:=Nd.msr_le.1 ps[i];omega)
  have e6:=ps[i].cells_len
  have e7:=ps[i].cells_take
  generalize ps[i]=p at*
  cases hs:(rgtF t (p.msr+1) p).2 with
  |false=>
   rw[hs] at c2
   have X:=And.intro X0 (And.intro (show(i:Int)<ps.length by omega) (And.intro e5 (And.intro e6 (And.intro e7 (And.intro q6 (And.intro e3 e4))))))
   (refine run ?_;with_reducible repeat' first|exact trivial|(apply Fork.mk<;>intro hb)|apply Two.mk)
   exact finS (n0:=H.length) hR hC' hcl (.same _ rfl) ⟨rfl,rfl⟩
  |true=>
   rw[hs] at c2
   have X:=And.intro X0 (And.intro (show(i:Int)<ps.length by omega) (And.intro e5 (And.intro e6 (And.intro e7 (And.intro q6 (And.intro e3 e4))))))
   (refine run ?_;with_reducible repeat' first|exact trivial|(apply Fork.mk<;>intro hb)|apply Two.mk)
   refine hK _ _ (i+1) (by omega) ⟨by omega,hall3 hs⟩ ?_
   exact Wk.sub (by simp[subEnv,look])
 obtain rfl:i=ps.length:=by omega
 rw[List.take_length] at hall
 clear hK
 have c2:=fun H2=>free_list G hG body (by omega) H2
 have c3:=fun H2=>has10_list G (freeS body) nextN H2 (by have:=freeS_len body;omega)
 have c3t:nextN∈freeS body→∀ H2,ACall Tryd.prog G 7 [.list 1 ((freeS body).map .str),.str nextN] H2 (fun r H'=>H'=H2∧r= .bool true):=fun hh H2=>by
  have:=c3 H2
  rwa[decide_eq_true hh] at this
 have c3f:nextN∉freeS body→∀ H2,ACall Tryd.prog G 7 [.list 1 ((freeS body).map .str),.str nextN] H2 (fun r H'=>H'=H2∧r= .bool false):=fun hh H2=>by
  have:=c3 H2
  rwa[decide_eq_false hh] at this
 clear c3
 by_cases g4:nextN∈freeS body
 ·have c3:=c3t g4
  simp only[nextN] at c3
  have X:=And.intro X0 (And.intro (Int.lt_irrefl (ps.length:Int)) (And.intro q6 (And.intro e3 e4)))
  (refine run ?_;with_reducible repeat' first|exact trivial|(apply Fork.mk<;>intro hb)|apply Two.mk)
  exact finS (n0:=H.length) hR hC' hcl (.same _ rfl) ⟨rfl,rfl⟩
 have hopen:openR t ⟨ps,body⟩=false:=by
  simp only[openR,decide_eq_false g4,Bool.false_or,List.any_eq_false]
  intro p hp
  rw[hall p hp];simp
 have c3:=c3f g4
 simp only[nextN] at c3
 have hms:∀ rs,RwB rs→(∀ r∈rs,RowFew r)→∀ r∈rs,((∀ p∈r.pats,p.msr+1<2147483648)∧r.body.wt<2147483648)∧r.pats.length<4294967296:=fun rs h1 h2 r hr=>by
  have h3:=h1.2 r hr
  exact⟨⟨fun p hp=>by have:=(h2 r hr).2 p hp;have:=Nd.msr_le.1 p;omega,by omega⟩,by omega⟩
 have hcn1:=cntR_le hfr.2.1
 have hcn2:=cntR_le hfm.2.1
 have hcna:cntR (rows++more)=cntR rows+cntR more:=by simp[cntR]
 have hl30:=hfr.1
 have hl30m:=hfm.1
 have c4:=fun H2=>Compile_ok G hG C0 hb0 hL t hfr.2.2 names first rows H2 (by omega) (by omega) (by omega) (by omega) (fun r hr=>(hms rows hrb hfr.2.1 r hr).1) (fun r hr=>(hms rows hrb hfr.2.1 r hr).2) (by omega)
 have hcS:=fun id g H2 hid=>CompileS_ok G hG C0 hb0 hL t hfr.2.2 names first (rows++more) id g H2 hid (by omega) (by omega) (by omega) (by rw[List.length_append];omega) (fun r hr=>by
  rcases List.mem_append.1 hr with hr|hr
  ·exact(hms rows hrb hfr.2.1 r hr).1
  ·exact(hms more hmb hfm.2.1 r hr).1) (fun r hr=>by
  rcases List.mem_append.1 hr with hr|hr
  ·exact(hms rows hrb hfr.2.1 r hr).2
  ·exact(hms more hmb hfm.2.1 r hr).2) (by omega)
 simp only[cm_eq] at c4 hcS
 have hkey:=stops_eq t names first rows more hnw hrb hfr hfm g1 g3 ⟨ps,body⟩ hlast hopen
 rw[List.length_append,rwCells_app] at hcS
 have a1:=(cmE t names first rows).cells_len
 have a2:=(cmE t names first rows).cells_take
 have a3:=(cmE t names first rows).cells_under H.length
 have b1:=(cmE t names first (rows++more)).cells_len
 have b2:=(cmE t names first (rows++more)).cells_take
 have b3:=(cmE t names first (rows++more)).cells_under H.length
 generalize cmE t names first rows=A at*
 generalize cmE t names first (rows++more)=B at*
 generalize cmN t names first rows=nA at*
 generalize cmN t names first (rows++more)=nB at*
 generalize cmC t names first rows=cA at*
 generalize cmC t names first (rows++more)=cB at*
 have X:=And.intro X0 (And.intro (Int.lt_irrefl (ps.length:Int)) (And.intro q6 (And.intro e3 (And.intro e4 (And.intro a1 a2)))))
 (refine runD ?_;with_reducible repeat' first|exact trivial|(apply Fork.mk<;>intro hb)|apply Two.mk)
 refine go_cut (fun _:Unit=>[(9,.ptr H.length 0 0 0),(10,.int .i64 nA),(11,.int .i64 cA),(12,.ptr (H.length+1) 0 0 0),(13,.int .i64 nB),(14,.int .i64 cB)]) (fun _=>H++[.cells 0 8 [.agg A.cells],.cells 0 8 [.agg B.cells]]) (fun _=>True) (fun K hK=>?_) (fun _ _=>?_)
 ·clear c1 c2 c3 c4
  have X:=And.intro X0 (And.intro b1 b2)
  (refine run ?_;with_reducible repeat' first|exact trivial|(apply Fork.mk<;>intro hb)|apply Two.mk)
  ·refine xcallS (hcS (H.length+4) 2 _ ?_) ?_
   ·exact hbS
   rintro r H' ⟨rfl,rfl⟩
   (refine run ?_;with_reducible repeat' first|exact trivial|(apply Fork.mk<;>intro hb)|apply Two.mk)
   refine hK _ _ () trivial ?_
   exact wkS (n0:=H.length) [(H.length+3,0),(H.length+5,0)] hG hB hC' hcl
  ·refine xcallS (hcS (H.length+4) 2 _ ?_) ?_
   ·exact hbS
   rintro r H' ⟨rfl,rfl⟩
   (refine run ?_;with_reducible repeat' first|exact trivial|(apply Fork.mk<;>intro hb)|apply Two.mk)
   refine hK _ _ () trivial ?_
   exact wkS (n0:=H.length) [(H.length+3,0),(H.length+5,0)] hG hB hC' hcl
  ·refine xcallS (hcS (H.length+4) 2 _ ?_) ?_
   ·exact hbS
   rintro r H' ⟨rfl,rfl⟩
   (refine run ?_;with_reducible repeat' first|exact trivial|(apply Fork.mk<;>intro hb)|apply Two.mk)
   refine hK _ _ () trivial ?_
   exact wkS (n0:=H.length) [(H.length+3,0),(H.length+5,0)] hG hB hC' hcl
  ·refine xcallS (hcS (H.length+4) 2 _ ?_) ?_
   ·exact hbS
   rintro r H' ⟨rfl,rfl⟩
   (refine run ?_;with_reducible repeat' first|exact trivial|(apply Fork.mk<;>intro hb)|apply Two.mk)
   refine hK _ _ () trivial ?_
   exact wkS (n0:=H.length) [(H.length+3,0),(H.length+5,0)] hG hB hC' hcl
  ·refine xcallS (hcS (H.length+5) 2 _ ?_) ?_
   ·exact hbS
   rintro r H' ⟨rfl,rfl⟩
   (refine run ?_;with_reducible repeat' first|exact trivial|(apply Fork.mk<;>intro hb)|apply Two.mk)
   refine hK _ _ () trivial ?_
   exact wkS (n0:=H.length) [(H.length+3,0),(H.length+4,0)] hG hB hC' hcl
 clear c2 c3 c4 hcS
 by_cases k1:cA=0
 case neg=>
  have X:=And.intro X0 k1
  (refine run ?_;with_reducible repeat' first|exact trivial|(apply Fork.mk<;>intro hb)|apply Two.mk)
  exact finS (n0:=H.length) hR hC' hcl (.same _ rfl) ⟨rfl,rfl⟩
 by_cases k2:cB=0
 case neg=>
  have X:=And.intro X0 (And.intro k1 k2)
  (refine run ?_;with_reducible repeat' first|exact trivial|(apply Fork.mk<;>intro hb)|apply Two.mk)
  exact finS (n0:=H.length) hR hC' hcl (.same _ rfl) ⟨rfl,rfl⟩
 obtain⟨rfl,rfl,hw⟩:=hkey k1 k2
 have c2:∀ H2,ACall Tryd.prog G 10 [.agg A.cells,.agg A.cells] H2 (fun r H'=>H'=H2∧r= .bool true):=fun H2=>by
  have:=same_ok G hG A.wt A A H2 (Nat.le_refl _) hw hw
  rwa[smE_self A.wt A (Nat.le_refl _)] at this
 have X:=And.intro X0 (And.intro k1 (And.intro k2 (And.intro a1 a2)))
 (refine run ?_;with_reducible repeat' first|exact trivial|(apply Fork.mk<;>intro hb)|apply Two.mk)
 exact finS (n0:=H.length) hR hC' hcl (.same _ rfl) ⟨rfl,rfl⟩
end Go.Proofs.YtggmfabkpnfodaaDoor
section
open Go
namespace Go.Proofs.YtggmfabkpnfodaaDoor.matchStops
open Go Go.ChangeShapes Go.WideShapes Go.RowKit
theorem rwB_of {l:List Rw} (h:(l.map Rw.wt).sum≤1048576):RwB l:=by
 have h1:=sum_len (fun r=>(by simp only[Rw.wt];omega:1≤Rw.wt r)) l
 refine⟨by omega,fun r hr=>?_⟩
 have h2:=sum_mem (f:=Rw.wt) hr
 simp only[Rw.wt] at h2
 have h3:=ndsWt_len r.pats
 refine⟨by omega,by omega,fun p hp=>?_⟩
 have:=ndsWt_mem hp
 omega
set_option maxRecDepth 100000 in
theorem contract (H:Type) (enc:TypeId×Value→H) (W:World) (base:Nat) (args:Array Value) (ds gs:List (DataW H)) (before:List MemPlace)
 (hval:∀ (j:Nat) t v,Tryd.f3.params[j]? =some t→args[j]? =some v→Value.okWide Tryd.prog W .any base t v)
 (hW:DataW.Whole enc Tryd.prog Tryd.f3.params.toList Rows.matchStopsSpec.vars false W args.toList ds gs before) (hL:laidMetH Tryd.prog Rows.matchStopsUptoRow.laid W) (hk:Rows.uptoSmall H (ds++gs)=true):
 Calls Tryd.prog 3 args W fun e W'=>∃ v,e= .returned v∧Rows.matchStopsSpec.post enc Tryd.prog Tryd.f3 false true false false W args v W':=by
 have hW':=hW
 obtain⟨p,q,hA0,hV,rfl,hfz,hnd⟩:=hW
 have hA:DataW.TrodAll enc Tryd.prog W 0 (fun _=>true) true Tryd.f3.params.toList args.toList ds p:=hA0
 rw[Tryd.params3] at hA hval
 obtain⟨v0,vs0,d0,ds0,p0,q0,hargs,rfl,rfl,h0,r0⟩:=trodAll_cons hA
 obtain⟨v1,vs1,d1,ds1,p1,q1,rfl,rfl,rfl,h1,r1⟩:=trodAll_cons r0
 obtain⟨v2,vs2,d2,ds2,p2,q2,rfl,rfl,rfl,h2,r2⟩:=trodAll_cons r1
 obtain⟨rfl,rfl,rfl⟩:=trodAll_nil r2
 obtain rfl:args= #[v0,v1,v2]:=by cases args;simp_all
 obtain⟨rfl,rfl⟩:=trodVars_none hV
 obtain⟨cs0,rfl,_⟩:=okWide_struct Tryd.underlying25 (hval 0 25 v0 (by simp) (by simp))
 obtain⟨fuel0,hf0⟩:=h0
 obtain⟨e0,hg0,_,hw0⟩:=read_tb fuel0 _ _ hf0
 obtain⟨cs1,rfl,_⟩:=okWide_struct Tryd.underlying29 (hval 1 29 v1 (by simp) (by simp))
 obtain⟨fuel1,hf1⟩:=h1
 obtain⟨e1,hg1,_,hw1⟩:=read_xr fuel1 _ _ hf1
 obtain⟨a2,len2,cap2,rfl⟩:=okWide_slice Tryd.underlying27 (hval 2 27 v2 (by simp) (by simp))
 obtain⟨fuel2,hf2⟩:=h2
 obtain⟨e2,hg2,_,hw2⟩:=read_rws fuel2 _ _ hf2
 have hbulk:e0.wt+e1.wt+(e2.map Rw.wt).sum≤1048576:=by
  simp only[Rows.uptoSmall,decide_eq_true_eq,List.append_nil,Rows.uptoBulkAll] at hk
  simp only at hw0 hw1 hw2
  omega
 refine(law_callsG (args:=[.agg e0.cells,.agg e1.cells,.list 9 (rwCells e2)]) (vs:=[.agg cs0,.agg cs1,.slice a2 len2 cap2]) (matchStops_ok (GB W) (gclosedB W) (rdC W) rfl (libAt hL) e0 e1.names e1.first e1.rows e2 [] (by have:=sum_len (fun c=>(by simp only[Cn.wt];omega:1≤Cn.wt c)) e0.cons;simp only[Tb.wt] at hbulk;omega) (by have:=sum_len (fun c=>(by simp only[Lb.wt];omega:1≤Lb.wt c)) e0.labels;simp only[Tb.wt] at hbulk;omega) (by simp only[Xr.wt] at hbulk;omega) (rwB_of (by simp only[Xr.wt] at hbulk;omega)) (rwB_of (by omega))) (gokB W) ?_ (fun W'=>law_post laid rfl hW' ?_ rfl (by kernel_rfl) rfl rfl rfl)).mono ?_
 ·refine RepL.mk_cons ?_ (RepL.mk_cons ?_ (RepL.mk_cons ?_ (RepL.mk_nil)))
  ·simp only[Rep];exact⟨cs0.toList,hg0.1,hg0.2,rfl⟩
  ·simp only[Rep];exact⟨cs1.toList,hg1.1,hg1.2,rfl⟩
  ·have hq:RepL (rdC W) [.list 9 (rwCells e2)] [Value.slice a2 len2 cap2]:=hg2.1
   obtain⟨u,us,q1,q2,q3⟩:=RepL.cons_iff.1 hq
   cases q3
   exact q1
 ·intro t ht
  rw[Tryd.params3] at ht
  simp only[List.mem_cons,List.not_mem_nil,or_false] at ht
  rcases ht with rfl|rfl|rfl<;>exact⟨by kernel_rfl,of_decide_eq_true (by kernel_rfl)⟩
 ·rintro _ W' ⟨v,rfl,rfl,hp⟩
  exact⟨_,rfl,hp⟩
theorem laid_met (os:Os):laidMet Tryd.prog Rows.matchStopsUptoRow.laid ((laidWorld os).forCall (fun _ _=>0) ⟨#[],#[Value.agg #[.slice none 0 0,.slice none 0 0],Value.agg #[.slice none 0 0,.int .i64 0,.slice none 0 0],Value.slice none 0 0],[]⟩).memory:=
 laidMet_of_run' 8 (by kernel_rfl) (by kernel_rfl)
theorem reads (os:Os) {H:Type} (enc:TypeId×Value→H):∃ places,DataW.whole enc Tryd.prog ((laidWorld os).forCall (fun _ _=>0) ⟨#[],#[Value.agg #[.slice none 0 0,.slice none 0 0],Value.agg #[.slice none 0 0,.int .i64 0,.slice none 0 0],Value.slice none 0 0],[]⟩).memory Tryd.f3.params.toList Rows.matchStopsSpec.vars false (#[Value.agg #[.slice none 0 0,.slice none 0 0],Value.agg #[.slice none 0 0,.int .i64 0,.slice none 0 0],Value.slice none 0 0]:Array Value).toList 8=some ([.agg [.nil,.nil],.agg [.nil,.lit (.int .i64 0),.nil],.nil],[],places):=
 ⟨[],by kernel_rfl⟩
set_option maxRecDepth 100000 in
theorem lifted (os:Os) (started:os.Started) (H:Type) (enc:TypeId×Value→H) (F:Stop.Interp):
 ReturnsInHanded {} Tryd.checked os 3 .any ((Rows.OpenSpec.upto Rows.matchStopsSpec).preRow enc Tryd.prog Tryd.f3 Rows.matchStopsUptoRow.domain false Rows.matchStopsUptoRow.laid) (((Rows.OpenSpec.upto Rows.matchStopsSpec).at F).post enc Tryd.prog Tryd.f3 false true false false):=by
 obtain⟨places,hx⟩:=reads os enc
 refine returnsInHanded_of_row (C:=Tryd.checked) (s:=Rows.OpenSpec.upto Rows.matchStopsSpec) own started (by kernel_rfl) Tryd.func3
  (witness_row_at (enc:=enc) (C:=Tryd.checked) false (laidWorld os) #[Value.agg #[.slice none 0 0,.slice none 0 0],Value.agg #[.slice none 0 0,.int .i64 0,.slice none 0 0],Value.slice none 0 0] rfl (by kernel_rfl) (by kernel_rfl) (by kernel_rfl)
   (OpenSpec.preRow_of_cond 8 hx (by kernel_rfl) (fun k hk=>by cases hk;kernel_rfl) (by kernel_rfl) (laid_met os))) ?_
 intro W base args ds gs before hval hW _ hcond _ hL _ _
 exact contract H enc W base args ds gs before hval hW hL (hcond _ rfl)
theorem said:Rows.MatchStopsUptoSaid:=
 OpenClaim.holds_of_cond 3 Tryd.f3 rfl rfl rfl rfl rfl rfl rfl ⟨rfl,rfl,rfl,rfl,rfl⟩ rfl rfl rfl rfl rfl (by kernel_rfl) Tryd.func3 (by kernel_rfl)
  (of_decide_eq_true (by kernel_rfl)) (by unfold Func.isWrapper;first|(rw[if_pos (by decide+kernel)];kernel_rfl)|(rw[if_neg (by decide+kernel)];exact⟨rfl,rfl⟩))
  (fun os started H enc _ F=>by rw[OpenClaim.pre_eq_preRow];exact lifted os started H enc F)
theorem plain (f:FuncId) (fn:Func) (hf:Tryd.pinned.checked.prog.funcNamed "teasel/teasellaw11.MatchStops" =some f) (hfn:Tryd.pinned.checked.prog.funcs[f]? =some fn):
 false=Tryd.pinned.checked.prog.looks []∧∀ (j:Nat) t,fn.params[j]? =some t→Tryd.pinned.checked.prog.wantsStandIn t=false:=by
 obtain rfl:f=3:=Option.some.inj ((show Tryd.prog.funcNamed "teasel/teasellaw11.MatchStops" =some 3 by kernel_rfl).symm.trans hf)|>.symm
 obtain rfl:fn=Tryd.f3:=(Option.some.inj (Tryd.func3.symm.trans hfn)).symm
 refine⟨by kernel_rfl,fun j t ht=>?_⟩
 rw[Tryd.params3] at ht
 have hm:=Array.mem_of_getElem? ht
 have hm2:t=25∨t=29∨t=27:=by
  have h3:t=25∨t=29∨t=27:=by simpa using hm
  rcases h3 with rfl|rfl|rfl<;>simp
 rcases hm2 with rfl|rfl|rfl
 ·exact(show Tryd.prog.wantsStandIn 25=false by kernel_rfl)
 ·exact(show Tryd.prog.wantsStandIn 29=false by kernel_rfl)
 ·exact(show Tryd.prog.wantsStandIn 27=false by kernel_rfl)
theorem proved:Rows.MatchStopsUptoCardSaid:=
 Claim7.holds_tied_plain_at .later [] _ _ _ _ said (fun _ h=>by cases h) (by kernel_rfl) (fun _ h=>by cases h) matchStopsUpto_row_tie rfl ⟨rfl,rfl⟩ (by kernel_rfl) rfl plain (by kernel_rfl)
end Go.Proofs.YtggmfabkpnfodaaDoor.matchStops
end
namespace Go.Proofs.YtggmfabkpnfodaaDoor
open Go
end Go.Proofs.YtggmfabkpnfodaaDoor
