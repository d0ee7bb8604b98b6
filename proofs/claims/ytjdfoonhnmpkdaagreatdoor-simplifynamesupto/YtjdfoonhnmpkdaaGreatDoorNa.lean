/- Proves SimplifyNames in its Upto form: behind a pass no name is bound twice, and a new name is none that was there; condition: the bulk of what is handed in is at most 2^20. Names and spaces are cut short by program. -/
import Derived.Test.YtjdfoonhnmpkdaaGreatDoorMl
set_option linter.unusedSimpArgs false
set_option linter.unusedVariables false
set_option maxRecDepth 10000
set_option maxHeartbeats 4000000
namespace Go.Proofs.YtjdfoonhnmpkdaaGreatDoor
open Go
def vq (l:List aD):List aD:=l.foldl qM []
theorem xm (l:List aD) (s:aD):(bO (kB (vq l)) (.str s)).getD (.bool false)= .bool (decide (s∈l)):=by
 rw[pd]
 congr 1
 rw[decide_eq_decide,vq,u9]
 simp
theorem CI {l:List aD} {i:Nat} (h:i<l.length):cN (kB (vq (l.take i))) (.str l[i]) (.bool true)=kB (vq (l.take (i+1))):=by
 rw[oh,vq,vq,List.take_succ_eq_append_getElem h,List.foldl_append];rfl
theorem rP (G:Gl) (hG:ah G) (hB0:dW G 0) (C0:Cx) (hb0:G.base=some C0) (hl0:lZ C0) (haw:∀ H,aq Tryz.prog G 8 [] H (fun r H'=>H'=H∧r= .bool true)) (p:Pg) (H:List av)
 (hpw:aV p.binds<67108864) (hcn:p.cons.length<1073741824) (hns:∀ s∈aU p.binds,s.length<4294967296):
 aq Tryz.prog G 4 [p.sv] H (fun r H'=>H'=H∧r= .bool true):=by
 have hlint:=fun H=>iM G hG p H (by omega) (by omega)
 have hpg:bJ p=0→mf p.cons (fun s=>s.length<4294967296∧(s∈aU p.binds∨3≤s.length)) L0 p:=fun h0=>vp h0 hpw fun s hs=>⟨hns s hs,.inl hs⟩
 have hfr:∀ i,i<NN L0→(cx i).length<4294967296∧(cx i∈aU p.binds∨3≤(cx i).length):=fun i hi=>by
  have:=fh i (by unfold NN L0 at hi;omega)
  exact⟨this.2,.inr this.1⟩
 have hps:=fun h0 hcs H=>nD G hG hB0 C0 hb0 hl0 p (hpg h0) hcs hfr (fun s h=>h.1) (by unfold L0;omega) H
 have hpq:=fun h0 hcs=>((hpg h0).pass hcs hfr).1
 generalize bJ p=S at*
 generalize cD p=Q at*
 clear hpg hfr
 obtain⟨cons,binds⟩:=p
 rw[show(Pg.mk cons binds).sv= .agg [.list 4 (ay cons),.list 9 (ad binds)] from rfl] at*
 dsimp only at*
 rw[show Q.sv= .agg [.list 4 (ay Q.cons),.list 9 (ad Q.binds)] from rfl] at hps
 have cC:=fun n=>aX n cons
 have c1:=haw
 have hnx:=fun H=>tY G hG C0 hb0 hl0 cons binds H (by omega) hns
 have hall:=fun H=>yy G hG cons binds H (by omega)
 have hbw:=dG binds
 refine bP [] Tryz.func4 Tryz.ntmps4 fun C R' hR hC hcl hB hC' X=>?_
 (refine run ?_)
 refine br (tH G hG cons binds _ (by omega) (by omega) hns) ?_
 rintro r H' ⟨rfl,b,rfl,hsm⟩
 cases b
 ·(refine run ?_)
  exact aZ (n0:=H.length) hR hC' hcl (.same _ rfl) ⟨rfl,rfl⟩
 have hcs:=hsm rfl
 have c2:=hlint
 by_cases h0:S=0
 rotate_left
 ·have X:=And.intro aO h0
  (refine run ?_)
  exact aZ (n0:=H.length) hR hC' hcl (.same _ rfl) ⟨rfl,rfl⟩
 subst h0
 have c3:=hps rfl hcs
 have hqi:=hpq rfl hcs
 have hqw:=hqi.wt
 have hqn:=hqi.nm
 have hqd:=(sD hqi.lint).names
 have hnq:=fun H=>tY G hG C0 hb0 hl0 Q.cons Q.binds H (by unfold L0 at hqw;omega) (fun s hs=>(hqn s hs).1)
 have haq:=fun H=>yy G hG Q.cons Q.binds H (by unfold L0 at hqw;omega)
 have hqb:=dG Q.binds
 have hqb2:(aU Q.binds).length<4294967296:=by unfold L0 at hqw;omega
 have n1:1≤ju binds:=by unfold ju;omega
 have n2:1≤ju Q.binds:=by unfold ju;omega
 have n3:=DX binds
 have n4:=DX Q.binds
 generalize ju binds=N1 at*
 generalize ju Q.binds=N2 at*
 generalize aU binds=bl at*
 generalize aU Q.binds=ml at*
 clear hpq hps hqi hlint
 have c4:=hall
 have lb:(bl.map SV.str).length=bl.length:=List.length_map _
 have lm:(ml.map SV.str).length=ml.length:=List.length_map _
 have esO_und:=nL
 have X:=And.intro aO lb
 (refine run ?_)
 refine aA (fun i:Nat=>[(1,.ptr H.length 0 0 0),(2,.bool false),(3,.ptr (H.length+1) 0 0 0),(5,.map (H.length+2)),(6,.list 1 (bl.map .str)),(7,.int .i64 i)]) (fun i=>H++[.cells 0 2 [.agg [.list 4 (ay cons),.list 9 (ad binds)]],.cells 0 2 [.agg [.list 4 (ay Q.cons),.list 9 (ad Q.binds)]],.map none (kB (vq (bl.take i)))]) (fun i=>bl.length - i) (fun i=>i≤bl.length) 0 (Nat.zero_le _) ?_ ?_
 ·exact Wk.sub (by simp[aW,look,vq,kB])
 rintro K i hi hK
 rcases Nat.lt_or_ge i bl.length with hlt|hge
 ·have hg:(bl.map SV.str)[i]? =some (.str bl[i]):=by simp[hlt]
  have hss:=CI hlt
  generalize bl[i]=s at*
  have X:=iY aO lb hg hss
  (refine run ?_;with_reducible repeat' first|exact trivial|(apply aJ.mk<;>intro hb)|apply bN.mk)
  refine hK _ _ (i+1) (by omega) (by omega) ?_
  exact Wk.sub (by simp[aW,look])
 clear hK
 obtain rfl:i=bl.length:=by omega
 rw[List.take_length]
 have c5:=hnx
 clear c4
 have c4:=haq
 have X:=iY aO lb lm (Int.lt_irrefl (bl.length:Int))
 (refine run ?_)
 refine aA (fun i:Nat=>[(1,.ptr H.length 0 0 0),(2,.bool false),(3,.ptr (H.length+1) 0 0 0),(5,.map (H.length+2)),(8,.int .i64 N1),(9,.list 1 (ml.map .str)),(10,.map (H.length+3)),(11,.int .i64 i)]) (fun i=>H++[.cells 0 2 [.agg [.list 4 (ay cons),.list 9 (ad binds)]],.cells 0 2 [.agg [.list 4 (ay Q.cons),.list 9 (ad Q.binds)]],.map none (kB (vq bl)),.map none (kB (vq (ml.take i)))]) (fun i=>ml.length - i) (fun i=>i≤ml.length) 0 (Nat.zero_le _) ?_ ?_
 ·exact Wk.sub (by simp[aW,look,vq,kB])
 rintro K i hi hK
 rcases Nat.lt_or_ge i ml.length with hlt|hge
 ·have hg:(ml.map SV.str)[i]? =some (.str ml[i]):=by simp[hlt]
  have hss:=CI hlt
  have hfs:=xm (ml.take i) ml[i]
  have hfb:=xm bl ml[i]
  have hnt:ml[i]∉ml.take i:=fun hm=>by
   obtain⟨j,hj,e⟩:=List.mem_take_iff_getElem.1 hm
   have:=(List.getElem_inj hqd).1 e
   omega
  rw[decide_eq_false hnt] at hfs
  have hor:=(hqn ml[i] (List.getElem_mem hlt)).2
  generalize ml[i]=s at*
  by_cases hmb:s∈bl
  ·rw[decide_eq_true hmb] at hfb
   have X:=oD aO lm hg hss hfs hfb
   (refine run ?_;with_reducible repeat' first|exact trivial|(apply aJ.mk<;>intro hb)|apply bN.mk)
   refine hK _ _ (i+1) (by omega) (by omega) ?_
   exact Wk.sub (by simp[aW,look])
  ·rw[decide_eq_false hmb] at hfb
   have h3:¬ (s.length:Int)<3:=by rcases hor with h|h;(· exact absurd h hmb);(· omega)
   have X:=eu aO lm hg hss hfs hfb h3
   (refine run ?_;with_reducible repeat' first|exact trivial|(apply aJ.mk<;>intro hb)|apply bN.mk)
   refine hK _ _ (i+1) (by omega) (by omega) ?_
   exact Wk.sub (by simp[aW,look])
 clear hK
 obtain rfl:i=ml.length:=by omega
 have m1:(1:Int)≤(N1:Int):=by omega
 have m2:(1:Int)≤(N2:Int):=by omega
 clear c5
 have c5:=hnq
 have X:=j8 aO lm (Int.lt_irrefl (ml.length:Int)) m1 m2
 (refine run ?_)
 exact aZ (n0:=H.length) hR hC' hcl (.same _ rfl) ⟨rfl,by simp[aC]⟩
end Go.Proofs.YtjdfoonhnmpkdaaGreatDoor
section
open Go
namespace Go.Proofs.YtjdfoonhnmpkdaaGreatDoor.simplifyNames
open Go Go.ChangeShapes Go.WideShapes Go.RowKit
set_option maxRecDepth 100000 in
theorem je (H:Type) (enc:TypeId×Value→H) (W:World) (base:Nat) (args:Array Value) (ds gs:List (DataW H)) (before:List MemPlace)
 (hval:∀ (j:Nat) t v,Tryz.f4.params[j]? =some t→args[j]? =some v→Value.okWide Tryz.prog W .any base t v)
 (hW:DataW.Whole enc Tryz.prog Tryz.f4.params.toList Rows.simplifyNamesSpec.vars false W args.toList ds gs before) (hL:laidMetH Tryz.prog Rows.simplifyNamesUptoRow.laid W) (hk:Rows.uptoSmall H (ds++gs)=true):
 Calls Tryz.prog 4 args W fun e W'=>∃ v,e= .returned v∧Rows.simplifyNamesSpec.post enc Tryz.prog Tryz.f4 false true false false W args v W':=by
 have hW':=hW
 obtain⟨p,q,hA0,hV,rfl,hfz,hnd⟩:=hW
 have hA:DataW.TrodAll enc Tryz.prog W 0 (fun _=>true) true Tryz.f4.params.toList args.toList ds p:=hA0
 rw[Tryz.params4] at hA hval
 obtain⟨v0,vs0,d0,ds0,p0,q0,hargs,rfl,rfl,h0,r0⟩:=trodAll_cons hA
 obtain⟨rfl,rfl,rfl⟩:=trodAll_nil r0
 obtain rfl:args= #[v0]:=by cases args;simp_all
 obtain⟨rfl,rfl⟩:=trodVars_none hV
 obtain⟨cs0,rfl,_⟩:=okWide_struct Tryz.underlying25 (hval 0 25 v0 (by simp) (by simp))
 obtain⟨fuel0,hf0⟩:=h0
 obtain⟨e0,hg0,_,hw0⟩:=zW fuel0 _ _ hf0
 have hbulk:e0.wt≤1048576:=by
  simp only[Rows.uptoSmall,decide_eq_true_eq,List.append_nil,Rows.uptoBulkAll] at hk
  simp only at hw0
  omega
 refine(lL (args:=[e0.sv]) (vs:=[.agg cs0]) (rP (GB W) (im W) (yG W) (vt W) rfl (sC hL) (pG (GB W) (im W) (vt W) rfl (sC hL)) e0 [] (by have:=v8 e0.binds;unfold Pg.wt at hbulk;omega) (by have:=tB (f:=Cn.wt) (fun x=>by unfold Cn.wt;omega) e0.cons;unfold Pg.wt at hbulk;omega) (fun s hs=>by have:=mi hs;unfold Pg.wt at hbulk;omega)) (L6 W) ?_ (fun W'=>qz laid rfl hW' ?_ rfl (by kernel_rfl) rfl rfl rfl)).mono ?_
 ·refine ax.bG ?_ (ax.bQ)
  ·simp only[Pg.sv,aB];exact⟨cs0.toList,hg0.1,hg0.2,rfl⟩
 ·intro t ht
  rw[Tryz.params4] at ht
  simp only[List.mem_cons,List.not_mem_nil,or_false] at ht
  rcases ht with rfl<;>exact⟨by kernel_rfl,of_decide_eq_true (by kernel_rfl)⟩
 ·rintro _ W' ⟨v,rfl,rfl,hp⟩
  exact⟨_,rfl,hp⟩
theorem jr (os:Os):laidMet Tryz.prog Rows.simplifyNamesUptoRow.laid ((dD os).forCall (fun _ _=>0) ⟨#[],#[Value.agg #[.slice none 0 0,.slice none 0 0]],[]⟩).memory:=
 laidMet_of_run' 8 (by kernel_rfl) (by kernel_rfl)
theorem reads (os:Os) {H:Type} (enc:TypeId×Value→H):∃ places,DataW.whole enc Tryz.prog ((dD os).forCall (fun _ _=>0) ⟨#[],#[Value.agg #[.slice none 0 0,.slice none 0 0]],[]⟩).memory Tryz.f4.params.toList Rows.simplifyNamesSpec.vars false (#[Value.agg #[.slice none 0 0,.slice none 0 0]]:Array Value).toList 8=some ([.agg [.nil,.nil]],[],places):=
 ⟨[],by kernel_rfl⟩
set_option maxRecDepth 100000 in
theorem lifted (os:Os) (started:os.Started) (H:Type) (enc:TypeId×Value→H) (F:Stop.Interp):
 ReturnsInHanded {} Tryz.checked os 4 .any ((Rows.OpenSpec.upto Rows.simplifyNamesSpec).preRow enc Tryz.prog Tryz.f4 Rows.simplifyNamesUptoRow.domain false Rows.simplifyNamesUptoRow.laid) (((Rows.OpenSpec.upto Rows.simplifyNamesSpec).at F).post enc Tryz.prog Tryz.f4 false true false false):=by
 obtain⟨places,hx⟩:=reads os enc
 refine returnsInHanded_of_row (C:=Tryz.checked) (s:=Rows.OpenSpec.upto Rows.simplifyNamesSpec) own started (by kernel_rfl) Tryz.func4
  (witness_row_at (enc:=enc) (C:=Tryz.checked) false (dD os) #[Value.agg #[.slice none 0 0,.slice none 0 0]] rfl (by kernel_rfl) (by kernel_rfl) (by kernel_rfl)
   (OpenSpec.preRow_of_cond 8 hx (by kernel_rfl) (fun k hk=>by cases hk;kernel_rfl) (by kernel_rfl) (jr os))) ?_
 intro W base args ds gs before hval hW _ hcond _ hL _ _
 exact je H enc W base args ds gs before hval hW hL (hcond _ rfl)
theorem said:Rows.SimplifyNamesUptoSaid:=
 OpenClaim.holds_of_cond 4 Tryz.f4 rfl rfl rfl rfl rfl rfl rfl ⟨rfl,rfl,rfl,rfl,rfl⟩ rfl rfl rfl rfl rfl (by kernel_rfl) Tryz.func4 (by kernel_rfl)
  (of_decide_eq_true (by kernel_rfl)) (by unfold Func.isWrapper;first|(rw[if_pos (by decide+kernel)];kernel_rfl)|(rw[if_neg (by decide+kernel)];exact⟨rfl,rfl⟩))
  (fun os started H enc _ F=>by rw[OpenClaim.pre_eq_preRow];exact lifted os started H enc F)
theorem plain (f:FuncId) (fn:Func) (hf:Tryz.pinned.checked.prog.funcNamed "teasel/teasellaw14.SimplifyNames" =some f) (hfn:Tryz.pinned.checked.prog.funcs[f]? =some fn):
 true=Tryz.pinned.checked.prog.looks []∧∀ (j:Nat) t,fn.params[j]? =some t→Tryz.pinned.checked.prog.wantsStandIn t=false:=by
 obtain rfl:f=4:=Option.some.inj ((show Tryz.prog.funcNamed "teasel/teasellaw14.SimplifyNames" =some 4 by kernel_rfl).symm.trans hf)|>.symm
 obtain rfl:fn=Tryz.f4:=(Option.some.inj (Tryz.func4.symm.trans hfn)).symm
 refine⟨by kernel_rfl,fun j t ht=>?_⟩
 rw[Tryz.params4] at ht
 have hm:=Array.mem_of_getElem? ht
 have hm2:t=25:=by
  have h3:t=25:=by simpa using hm
  rcases h3 with rfl<;>simp
 subst hm2
 ·exact(show Tryz.prog.wantsStandIn 25=false by kernel_rfl)
theorem proved:Rows.SimplifyNamesUptoCardSaid:=
 Claim7.holds_tied_plain_at .later [] _ _ _ _ said (fun _ h=>by cases h) (by kernel_rfl) (fun _ h=>by cases h) simplifyNamesUpto_row_tie rfl ⟨rfl,rfl⟩ (by kernel_rfl) rfl plain (by kernel_rfl)
end Go.Proofs.YtjdfoonhnmpkdaaGreatDoor.simplifyNames
end
namespace Go.Proofs.YtjdfoonhnmpkdaaGreatDoor
open Go
end Go.Proofs.YtjdfoonhnmpkdaaGreatDoor
