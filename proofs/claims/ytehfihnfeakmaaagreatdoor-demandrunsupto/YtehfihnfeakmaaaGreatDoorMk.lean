/- A part of the proof: K10, K2, X1, Sh3, Q1, X5, X3, X4, S6, P8, P10, K11. Names and spaces are cut short by program. -/
import Derived.Test.YtehfihnfeakmaaaGreatDoorMj
import Derived.Test.YtehfihnfeakmaaaGreatDoorCards
import Derived.Test.YtehfihnfeakmaaaGreatDoorTie
import Derived.Deep.DeepHandedRow
import Derived.Lib.LaidTab
import Derived.Stop.LaidErr
import Derived.Shelf.LaysM
import Derived.Shelf.Strconv.Itoa3
import Derived.Shelf.Strconv.AtoiAll
import Derived.Test.YtehfihnfeakmaaaGreatDoorProg
import Derived.Lib.SmallJoins
import Derived.Lib.AppendIntMem
set_option linter.unusedSimpArgs false
set_option linter.unusedVariables false
set_option maxRecDepth 10000
set_option maxHeartbeats 4000000
namespace Go.Proofs.YtehfihnfeakmaaaGreatDoor
open Go
theorem CZ (G:Gl) (hG:au G) (a b:List Int) (ha:a.length<1099511627776) (hb0:b.length<1099511627776) (H:List ax):
 af Tryz.prog G 29 [.list 1 (cc a),.list 1 (cc b)] H (fun r H'=>H'=H∧r= .bool (decide (a=b))):=by
 by_cases hl:a.length=b.length
 rotate_left
 ·have hli:¬ (a.length:Int)=(b.length:Int):=by omega
  have e:decide (a=b)=false:=decide_eq_false (fun h=>hl (by rw[h]))
  rw[e]
  refine af.aD TB [] aA _ Tryz.func29 rfl (by decide) Tryz.ntmps29 (by simp) rfl (by simp only[ap,Nat.reduceAdd];rfl) fun C R' hR hC hcl hB=>?_;have X:=aF;have hC':=congrArg List.length hC
  have X:=And.intro X hli
  (refine run ?_;with_reducible repeat' first|exact trivial|(apply ad.mk<;>intro hb)|apply av.mk)
  exact Fin.out hR ⟨rfl,rfl⟩
 have hli:(a.length:Int)=(b.length:Int):=by omega
 refine af.aD TB [] aA _ Tryz.func29 rfl (by decide) Tryz.ntmps29 (by simp) rfl (by simp only[ap,Nat.reduceAdd];rfl) fun C R' hR hC hcl hB=>?_;have X:=aF;have hC':=congrArg List.length hC
 have X:=And.intro X hli
 (refine run ?_;with_reducible repeat' first|exact trivial|(apply ad.mk<;>intro hb)|apply av.mk)
 refine az (fun i:Nat=>[(0,.list 1 (cc a)),(1,.list 1 (cc b)),(12,.int .i64 b.length),(13,.int .i64 i)]) (fun _=>H) (fun i=>b.length - i) (fun i=>i≤b.length∧a.take i=b.take i) 0 ⟨Nat.zero_le _,rfl⟩ (Wk.sub (by simp[bg,look])) ?_
 rintro K i ⟨hi,hti⟩ hK
 rcases Nat.lt_or_ge i b.length with hlt|hge
 ·have hlt2:i<a.length:=by omega
  have g1:(cc a)[i]? =some (.int .i64 a[i]):=by simp[cc,hlt2]
  have g2:(cc b)[i]? =some (.int .i64 b[i]):=by simp[cc,hlt]
  have X:=And.intro aF (And.intro g1 g2)
  (refine run ?_;with_reducible repeat' first|exact trivial|(apply ad.mk<;>intro hb)|apply av.mk)
  ·have hne:¬ a[i]=b[i]:=by simpa using hb
   have e:decide (a=b)=false:=decide_eq_false (fun h=>hne (by subst h;rfl))
   rw[e] at hR
   exact Fin.out hR ⟨rfl,rfl⟩
  ·have he:a[i]=b[i]:=by simpa using hb
   refine hK _ _ (i+1) (by omega) ⟨by omega,by rw[List.take_succ_eq_append_getElem hlt2,List.take_succ_eq_append_getElem hlt,hti,he]⟩ (Wk.sub (by simp[bg,look]))
 ·obtain rfl:i=b.length:=by omega
  clear hK
  have e:decide (a=b)=true:=decide_eq_true (by rw[List.take_of_length_le (by omega),List.take_length] at hti;exact hti)
  rw[e] at hR
  have X:=And.intro aF (Int.lt_irrefl (b.length:Int))
  (refine run ?_;with_reducible repeat' first|exact trivial|(apply ad.mk<;>intro hb)|apply av.mk)
  exact Fin.out hR ⟨rfl,rfl⟩
theorem p7 (G:Gl) (hG:au G) (p:Pg) (H:List ax) (hw:aM p.binds<4294967295) (hcn:p.cons.length<1099511627776) (hne:¬ bA p=0):
 af Tryz.prog G 8 [p.sv] H (fun r H'=>H'=H∧r= .tuple [.list 3 [],.int .i64 (bA p)]):=by
 have c1:=fun H=>pQ G hG p H hw hcn
 generalize bA p=S at*
 obtain⟨cons,binds⟩:=p
 rw[show(Pg.mk cons binds).sv= .agg [.list 4 (aH cons),.list 9 (ah binds)] from rfl] at*
 refine af.aD TB [5,14] aA _ Tryz.func8 rfl (by decide) Tryz.ntmps8 (by simp) rfl (by simp only[ap,Nat.reduceAdd];rfl) fun C R' hR hC hcl hB=>?_;have X:=aF;have hC':=congrArg List.length hC
 have X:=And.intro aF hne
 (refine run ?_;with_reducible repeat' first|exact trivial|(apply ad.mk<;>intro hb)|apply av.mk)
 exact Fin.bY (n0:=H.length) hR rfl hC' hcl (.tuple _ _ (.cons _ _ _ _ (.nil _) (.cons _ _ _ _ (.same _ rfl) .nil))) ⟨rfl,rfl⟩
theorem ru (l:List Bd) (b:Bd):cx (l++[b])=if b.e.kind=3 then cx l++[b] else cx l:=by
 rw[cx,List.filter_append,← cx,List.filter_cons]
 by_cases h:b.e.kind=3
 ·simp[h]
 ·simp[h]
theorem xB {l:List Bd} (h:(l.map Bd.name).Nodup):((cx l).map Bd.name).Nodup:=((List.filter_sublist (p:=fun b:Bd=>decide (b.e.kind=3)) (l:=l)).map Bd.name).nodup h
theorem uJ {e:Ex} (h:e.ae.length=1):∃ x,e.ae=[x]∧kJ e=x∧x.wt<e.wt:=by
 obtain⟨kd,nm,nn,op,names,ae,binds,alts⟩:=e
 simp only[Ex.ae] at h
 obtain⟨x,rfl⟩:=List.length_eq_one_iff.1 h
 exact⟨x,rfl,rfl,Ex.bT (by rw[Ex.bM];simp)⟩
theorem oN {lams:List Bd} (h:∀ b∈lams,b.e.ae.length=1∧b.e.wt<4294967295) (n:Nat):∀ o∈dh lams n,o.bN.length<4294967296:=by
 intro o ho
 cases n with
 |zero=>obtain⟨b,_,rfl⟩:=List.mem_map.1 ho;show([]:List Int).length<_;simp
 |succ n=>
  obtain⟨b,hb,rfl⟩:=List.mem_map.1 ho
  obtain⟨h1,h2⟩:=h b hb
  obtain⟨x,_,q2,q3⟩:=uJ h1
  have h3:=jz b.e.names (jX (bc [] (dh lams n)) (kJ b.e))
  have h4:=fq aU (bc [] (dh lams n)) (kJ b.e).wt (kJ b.e)
  rw[q2] at h3 h4
  unfold jX at h3
  simp only[kH,q2,jX]
  omega
theorem oe (G:Gl) (hG:au G) (p:Pg) (H:List ax) (hw:aM p.binds<4294967295) (hcn:p.cons.length<1099511627776) (h0:bA p=0):
 af Tryz.prog G 8 [p.sv] H (fun r H'=>H'=H∧r= .tuple [.list 3 (aK (fo p)),.int .i64 0]):=by
 have c1:=fun H=>pQ G hG p H hw hcn
 rw[h0] at c1
 have hnn:=wl (ry h0).names
 have hlam:=fun b hb hk=>xD h0 (b:=b) hb hk
 obtain⟨cons,binds⟩:=p
 have hos:fo ⟨cons,binds⟩=dh (cx binds) 20:=rfl
 rw[hos]
 clear h0 hos
 simp only at hw hcn hnn hlam
 have hle:=cC binds
 rw[show(Pg.mk cons binds).sv= .agg [.list 4 (aH cons),.list 9 (ah binds)] from rfl] at*
 have fE:=tv
 have gA:=iZ
 have bK:=bO
 refine af.aD TB [5,14] aA _ Tryz.func8 rfl (by decide) Tryz.ntmps8 (by simp) rfl (by simp only[ap,Nat.reduceAdd];rfl) fun C R' hR hC hcl hB=>?_;have X:=aF;have hC':=congrArg List.length hC
 (refine run ?_;with_reducible repeat' first|exact trivial|(apply ad.mk<;>intro hb)|apply av.mk)
 refine az (fun i:Nat=>[(5,.sl H.length 0 0 (cx (binds.take i)).length),(6,.map (H.length+1)),(25,.list 9 (ah binds)),(26,.int .i64 binds.length),(27,.int .i64 i)]) (fun i=>H++[.cells 0 3 (aK ((cx (binds.take i)).map fun b=>kH b [])),.map none (yC (cx (binds.take i)))]) (fun i=>binds.length - i) (fun i=>i≤binds.length) 0 (Nat.zero_le _) ?_ ?_
 ·simp only[List.take_zero,show cx []=[] from rfl,List.map_nil,List.length_nil,show aK []=[] from rfl]
  exact aY (n0:=H.length) [(H.length+1,0),(H.length+2,0)] hG hB hC' hcl
 rintro K i hi hK
 rcases Nat.lt_or_ge i binds.length with hlt|hge
 ·have ht:=List.take_succ_eq_append_getElem hlt
  have hsn:=ru (binds.take i) binds[i]
  rw[← ht] at hsn
  have hbi:binds[i]? =some binds[i]:=List.getElem?_eq_getElem hlt
  have hnew:binds[i].name∉(cx (binds.take i)).map Bd.name:=by
   have h1:((binds.take (i+1)).map Bd.name).Nodup:=((List.take_sublist (i+1) binds).map Bd.name).nodup hnn
   rw[ht,List.map_append,List.map_singleton,List.nodup_append] at h1
   intro hm
   obtain⟨b,hb,e⟩:=List.mem_map.1 hm
   exact h1.2.2 _ (List.mem_map.2 ⟨b,(List.mem_filter.1 hb).1,e⟩) _ (List.mem_singleton.2 rfl) rfl
  have hset:=ug (cx (binds.take i)) binds[i] hnew
  have hodl:(aK ((cx (binds.take i)).map fun b=>kH b [])).length=(cx (binds.take i)).length:=by simp[aK]
  have hll:(cx (binds.take i)).length≤binds.length:=Nat.le_trans (List.length_filter_le ..) (by rw[List.length_take];omega)
  have hsnc:=j4 ((cx (binds.take i)).map fun b=>kH b []) (kH binds[i] [])
  generalize binds[i]=b at*
  obtain⟨nm,e⟩:=b
  obtain⟨kd,n2,nn,op,names,ae,bs,als⟩:=e
  have q1:(Bd.mk nm (.mk kd n2 nn op names ae bs als)).name=nm:=rfl
  have q2:(Bd.mk nm (.mk kd n2 nn op names ae bs als)).e.cells=[.int .i64 kd,.str n2,.int .i64 nn,.int .i64 op,.list 1 (names.map .str),.list 8 (ag ae),.list 9 (ah bs),.list 12 (aw als)]:=rfl
  have q3:(Bd.mk nm (.mk kd n2 nn op names ae bs als)).e.kind=kd:=rfl
  rw[q3] at hsn
  rw[q1,q2] at hset
  have q4:kH (Bd.mk nm (.mk kd n2 nn op names ae bs als)) []=⟨nm,names.length,[]⟩:=rfl
  rw[q4] at hsnc
  have hsnc:aK ((cx (binds.take i)).map fun b=>kH b [])++[.agg [.str nm,.int .i64 names.length,.list 1 []]]=_:=hsnc
  have X:=And.intro aF (And.intro hbi (And.intro q1 (And.intro q2 (And.intro hset (And.intro hodl hsnc)))))
  (refine run ?_;with_reducible repeat' first|exact trivial|(apply ad.mk<;>intro hb)|apply av.mk)
  ·rw[if_pos hb] at hsn
   refine hK _ _ (i+1) (by omega) (by omega) ?_
   rw[hsn,List.map_append,List.length_append,List.length_singleton]
   exact aY (n0:=H.length) [(H.length,0),(H.length+1,0)] hG hB hC' hcl
  ·rw[if_neg hb] at hsn
   refine hK _ _ (i+1) (by omega) (by omega) ?_
   rw[hsn]
   exact aY (n0:=H.length) [(H.length,0),(H.length+1,0)] hG hB hC' hcl
 obtain rfl:i=binds.length:=by omega
 clear hK
 rw[List.take_length]
 have hln:=xB hnn
 have hlb:∀ b∈cx binds,b∈binds∧b.e.kind=3:=fun b hb=>by
  have:=List.mem_filter.1 hb
  exact⟨this.1,by simpa using this.2⟩
 have hll:(cx binds).length≤binds.length:=List.length_filter_le ..
 have hbw:∀ b∈cx binds,b.e.wt<4294967295:=fun b hb=>by have:=kn (hlb b hb).1;omega
 have hls:∀ b∈cx binds,b.e.ae.length=1:=fun b hb=>hlam b (hlb b hb).1 (hlb b hb).2
 clear hlam hlb
 generalize hLL:cx binds=lams at*
 rw[show(lams.map fun b=>kH b [])=dh lams 0 from rfl]
 have X:=And.intro aF (Int.lt_irrefl (binds.length:Int))
 (refine run ?_;with_reducible repeat' first|exact trivial|(apply ad.mk<;>intro hb)|apply av.mk)
 refine az (fun r:Nat=>[(5,.sl H.length 0 0 lams.length),(6,.map (H.length+1)),(51,.int .i64 r)]) (fun r=>H++[.cells 0 3 (aK (dh lams r)),.map none (yC lams)]) (fun r=>20 - r) (fun r=>r≤20) 0 (Nat.zero_le _) ?_ ?_
 ·exact aY (n0:=H.length) [(H.length,0),(H.length+1,0)] hG hB hC' hcl
 rintro K r hr hK
 rcases Nat.lt_or_ge r 20 with hlt|hge
 rotate_left
 ·obtain rfl:r=20:=by omega
  clear hK
  have X:=aF
  (refine run ?_;with_reducible repeat' first|exact trivial|(apply ad.mk<;>intro hb)|apply av.mk)
  refine Fin.bY (n0:=H.length) hR rfl hC' hcl (.tuple _ _ (.cons _ _ _ _ ?_ (.cons _ _ _ _ (.same _ rfl) .nil))) ⟨rfl,rfl⟩
  exact bE.sf (g:=0) (sz:=3) (vals:=aK (dh lams 20)) (by rw[cS];rfl) (Nat.le_refl _) (by simp) (by rw[List.drop_zero,List.take_of_length_le (by rw[eH,ly];exact Nat.le_refl _)]) (bO _ _)
 have hol:=ly lams r
 have hks:=zv G hG (dh lams r) (by omega) (H++[.cells 0 3 (aK (dh lams r)),.map none (yC lams)]) H.length 0 (by rw[cS];rfl)
 rw[hol] at hks
 have hkn:=fun s=>AA (l:=bc [] (dh lams r)) (B:=4294967296) (fun o ho=>(lm (dh lams r) [] ho).elim (fun h=>by cases h) (fun h=>oN (fun b hb=>⟨hls b hb,hbw b hb⟩) r o h)) (by omega) s
 have hnew:dh lams (r+1)=sZ lams (bc [] (dh lams r)):=rfl
 generalize hk0:bc [] (dh lams r)=kk at*
 have X:=aF
 (refine run ?_;with_reducible repeat' first|exact trivial|(apply ad.mk<;>intro hb)|apply av.mk)
 refine bt hks ?_
 rintro r' H' ⟨rfl,rfl⟩
 simp only[List.append_assoc,List.cons_append,List.nil_append,List.length_append,List.length_cons,List.length_nil,List.length_set,X,Nat.reduceAdd]
 (refine run ?_;with_reducible repeat' first|exact trivial|(apply ad.mk<;>intro hb)|apply av.mk)
 have hnl:=rM lams kk
 rw[← hnew] at hnl
 have hng:∀ i (h:i<lams.length),(dh lams (r+1))[i]? =some (kH lams[i] (e9 lams[i].e.names (jX kk (kJ lams[i].e)))):=fun i h=>by rw[hnew];simp[sZ,h]
 have hog:=fun i (h:i<lams.length)=>xW lams r h
 have hon:=oN (fun b hb=>⟨hls b hb,hbw b hb⟩) r
 have hfix:=fun h=>rL (lams:=lams) (n:=r) h 20 hr
 generalize hNW:dh lams (r+1)=new at*
 generalize hOD:dh lams r=gi at*
 have hmix:∀ i,i≤lams.length→(new.take i++gi.drop i).length=lams.length:=fun i hi=>by simp only[List.length_append,List.length_take,List.length_drop];omega
 refine az (fun a:Nat×Bool=>[(5,.sl H.length 0 0 lams.length),(6,.map (H.length+1)),(9,.map (H.length+2)),(10,.bool a.2),(51,.int .i64 r),(55,.sl H.length 0 0 lams.length),(56,.int .i64 lams.length),(57,.int .i64 a.1)]) (fun a=>H++[.cells 0 3 (aK (new.take a.1++gi.drop a.1)),.map none (yC lams),.map none (ky kk)]) (fun a=>lams.length - a.1) (fun a=>a.1≤lams.length∧(a.2=false→new.take a.1=gi.take a.1)) (0,false) ⟨Nat.zero_le _,fun _=>rfl⟩ ?_ ?_
 ·simp only[List.take_zero,List.drop_zero,List.nil_append]
  exact aY (n0:=H.length) [(H.length,0),(H.length+1,0),(H.length+2,0)] hG hB hC' hcl
 rintro K3 ⟨i,c⟩ ⟨hi,hc⟩ hK3
 simp only at hi hc
 dsimp only
 rcases Nat.lt_or_ge i lams.length with hlti|hgei
 ·obtain⟨nums0,ho⟩:=hog i hlti
  have hn:=hng i hlti
  have hfx:=qN lams hln i hlti
  have hbi:=hls lams[i] (List.getElem_mem hlti)
  have hbwi:=hbw lams[i] (List.getElem_mem hlti)
  have hmi:(new.take i++gi.drop i)[i]? =gi[i]? :=by
   rw[List.getElem?_append_right (by rw[List.length_take];omega),List.length_take,Nat.min_eq_left (by omega),Nat.sub_self,List.getElem?_drop,Nat.add_zero]
  have hml:=hmix i hi
  generalize lams[i]=b at*
  obtain⟨nm,e⟩:=b
  obtain⟨x,hx1,hx2,hx3⟩:=uJ hbi
  obtain⟨kd,n2,nn,op,names,ae,bs,als⟩:=e
  have hx1:ae=[x]:=hx1
  subst hx1
  have ho:gi[i]? =some ⟨nm,names.length,nums0⟩:=ho
  have hn:new[i]? =some ⟨nm,names.length,e9 names (jX kk x)⟩:=by rw[hn,hx2];rfl
  rw[ho] at hmi
  have hfx:(bI (yC lams) (.str nm)).getD (.agg [.int .i64 0,.str [],.int .i64 0,.int .i64 0,.list 1 [],.list 8 [],.list 9 [],.list 12 []])= .agg [.int .i64 kd,.str n2,.int .i64 nn,.int .i64 op,.list 1 (names.map .str),.list 8 (ag [x]),.list 9 (ah bs),.list 12 (aw als)]:=by
   have hfx:bI (yC lams) (.str nm)=some _:=hfx
   rw[hfx];rfl
  have hwx:x.wt<4294967296:=by have:(Bd.mk nm (Ex.mk kd n2 nn op names [x] bs als)).e.wt<4294967295:=hbwi;omega
  have hnl2:names.length<4294967296:=by have:=Ex.cm kd n2 nn op names [x] bs als;have:(Ex.mk kd n2 nn op names [x] bs als).wt<4294967295:=hbwi;omega
  have hF:=qP G hG kk hkn x.wt
  have hfl:=fq aU kk x.wt x
  have hfS:aZ aU kk x.wt x=jX kk x:=rfl
  have hx0:([x]:List Ex)[0]? =some x:=rfl
  have X:=And.intro aF (And.intro hmi (And.intro hfx hx0))
  (refine run ?_;with_reducible repeat' first|exact trivial|(apply ad.mk<;>intro hb)|apply av.mk)
  refine bt (qR hF x (H.length+2) _ (Nat.le_refl _) hwx (by simp)) ?_
  rintro r' H' ⟨rfl,rfl⟩
  rw[hfS] at hfl ⊢
  generalize jX kk x=F at*
  (refine yd ?_;with_reducible repeat' first|exact trivial|(apply ad.mk<;>intro hb)|apply av.mk)
  have hgo:=rH names F
  have hnl3:=jz names F
  generalize hNN:e9 names F=NN at*
  refine dQ (fun _:Unit=>[(5,.sl H.length 0 0 lams.length),(6,.map (H.length+1)),(9,.map (H.length+2)),(10,.bool c),(11,.int .i64 i),(12,.ptr (H.length+3) 0 0 0),(14,.list 1 (cc NN)),(51,.int .i64 r),(55,.sl H.length 0 0 lams.length),(56,.int .i64 lams.length),(57,.int .i64 i)]) (fun _=>H++[.cells 0 3 (aK (new.take i++gi.drop i)),.map none (yC lams),.map none (ky kk),.cells 0 3 [.agg [.str nm,.int .i64 names.length,.list 1 (cc nums0)]]]) (fun _=>True) (fun K4 hK4=>?_) (fun _ _=>?_)
  ·have X:=aF
   (refine run ?_;with_reducible repeat' first|exact trivial|(apply ad.mk<;>intro hb)|apply av.mk)
   refine az (fun q:Nat=>[(5,.sl H.length 0 0 lams.length),(6,.map (H.length+1)),(9,.map (H.length+2)),(10,.bool c),(11,.int .i64 i),(12,.ptr (H.length+3) 0 0 0),(13,.ptr (H.length+4) 0 0 0),(14,.sl (H.length+5) 0 0 q),(51,.int .i64 r),(55,.sl H.length 0 0 lams.length),(56,.int .i64 lams.length),(57,.int .i64 i),(71,.list 1 (F.map .str)),(72,.int .i64 F.length),(73,.int .i64 q)])
    (fun q=>H++[.cells 0 3 (aK (new.take i++gi.drop i)),.map none (yC lams),.map none (ky kk),.cells 0 3 [.agg [.str nm,.int .i64 names.length,.list 1 (cc nums0)]],.cells 0 8 [.agg [.int .i64 kd,.str n2,.int .i64 nn,.int .i64 op,.list 1 (names.map .str),.list 8 (ag [x]),.list 9 (ah bs),.list 12 (aw als)]],.cells 0 1 (cc ((F.take q).map (idxFrom 0 names)))]) (fun q=>F.length - q) (fun q=>q≤F.length∧∀ s∈F.take q,s∈names) 0 ⟨Nat.zero_le _,by simp⟩ ?_ ?_
   ·simp only[List.take_zero,List.map_nil,cc]
    exact aY (n0:=H.length) [(H.length,0),(H.length+1,0),(H.length+2,0),(H.length+3,0),(H.length+4,0),(H.length+5,0)] hG hB hC' hcl
   rintro K5 q ⟨hq,hqn⟩ hK5
   have hgq:=hgo q hqn hq
   have hql:(cc ((F.take q).map (idxFrom 0 names))).length=q:=by simp only[cc,List.length_map,List.length_take];omega
   rcases Nat.lt_or_ge q F.length with hltq|hgeq
   ·have gq:(F.map SV.str)[q]? =some (.str F[q]):=by simp[hltq]
    have c2:=fun H=>rh G names F[q] H (by omega)
    have htq:=List.take_succ_eq_append_getElem hltq
    rw[List.drop_eq_getElem_cons hltq,e9] at hgq
    have hix:=jY names F[q] 0
    have hisn:=tH ((F.take q).map (idxFrom 0 names)) (idxFrom 0 names F[q])
    generalize F[q]=s at*
    by_cases hsn:s∈names
    ·have hge0:¬ idxFrom 0 names s<0:=by
      rcases hix with h|h
      ·exact absurd hsn h.2
      ·omega
     have his2:cc ((F.take q).map (idxFrom 0 names))++[.int .i64 (idxFrom 0 names s)]=cc ((F.take (q+1)).map (idxFrom 0 names)):=by rw[hisn,htq,List.map_append];rfl
     generalize idxFrom 0 names s=at_ at*
     have X:=And.intro aF (And.intro gq (And.intro hge0 (And.intro hql his2)))
     (refine run ?_;with_reducible repeat' first|exact trivial|(apply ad.mk<;>intro hb)|apply av.mk)
     refine hK5 _ _ (q+1) (by omega) ⟨by omega,fun y hy=>?_⟩ ?_
     ·rw[htq] at hy
      rcases List.mem_append.1 hy with hy|hy
      ·exact hqn y hy
      ·rw[List.mem_singleton.1 hy];exact hsn
     ·exact aY (n0:=H.length) [(H.length,0),(H.length+1,0),(H.length+2,0),(H.length+3,0),(H.length+4,0),(H.length+5,0)] hG hB hC' hcl
    ·have hlt0:idxFrom 0 names s<0:=by
      rcases hix with h|h
      ·omega
      ·exact absurd h.2 hsn
     rw[if_neg hsn,List.append_nil] at hgq
     have hL:List.take q (cc ((F.take q).map (idxFrom 0 names)))=cc NN:=by rw[List.take_of_length_le (by omega),hgq]
     have hun:SV.aB H.length (List.take q (cc ((F.take q).map (idxFrom 0 names))))=true:=by rw[hL];exact eF _ _
     generalize idxFrom 0 names s=at_ at*
     have X:=And.intro aF (And.intro gq hlt0)
     (refine run ?_;with_reducible repeat' first|exact trivial|(apply ad.mk<;>intro hb)|apply av.mk)
     refine hK4 _ _ () trivial ?_
     rw[← hL]
     exact aY (n0:=H.length) [(H.length,0),(H.length+1,0),(H.length+2,0),(H.length+3,0)] hG hB hC' hcl
   ·have hqF:q=F.length:=by omega
    rw[show F.drop q=[] from List.drop_eq_nil_of_le hgeq,show e9 names []=[] from rfl,List.append_nil] at hgq
    have hL:List.take q (cc ((F.take q).map (idxFrom 0 names)))=cc NN:=by rw[List.take_of_length_le (by omega),hgq]
    have hun:SV.aB H.length (List.take q (cc ((F.take q).map (idxFrom 0 names))))=true:=by rw[hL];exact eF _ _
    have hni:¬ (q:Int)<(F.length:Int):=by omega
    have X:=And.intro aF hni
    (refine run ?_;with_reducible repeat' first|exact trivial|(apply ad.mk<;>intro hb)|apply av.mk)
    refine hK4 _ _ () trivial ?_
    rw[← hL]
    exact aY (n0:=H.length) [(H.length,0),(H.length+1,0),(H.length+2,0),(H.length+3,0)] hG hB hC' hcl
  have hn0l:nums0.length<4294967296:=hon _ (List.mem_of_getElem? ho)
  have c2:=fun H=>CZ G hG NN nums0 (by omega) (by omega) H
  have hti:=List.take_succ_eq_append_getElem (l:=new) (i:=i) (by omega)
  have hnE:new[i]'(by omega)=⟨nm,names.length,NN⟩:=(List.getElem?_eq_some_iff.1 hn).2
  have hoE:gi[i]'(by omega)=⟨nm,names.length,nums0⟩:=(List.getElem?_eq_some_iff.1 ho).2
  have hdi:=List.drop_eq_getElem_cons (l:=gi) (i:=i) (by omega)
  have htoi:=List.take_succ_eq_append_getElem (l:=gi) (i:=i) (by omega)
  rw[hnE] at hti
  rw[hoE] at hdi htoi
  have hst:(aK (new.take i++gi.drop i)).set i (.agg [.str nm,.int .i64 names.length,.list 1 (cc NN)])=aK (new.take (i+1)++gi.drop (i+1)):=by
   have h1:=xU (new.take i++gi.drop i) i ⟨nm,names.length,NN⟩
   simp only at h1
   rw[h1,hdi,hti,List.set_append_right _ _ (by rw[List.length_take];omega),List.length_take,Nat.min_eq_left (by omega),Nat.sub_self,List.set_cons_zero,List.append_assoc];rfl
  by_cases heq:NN=nums0
  ·have X:=And.intro aF (And.intro heq hmi)
   (refine run ?_;with_reducible repeat' first|exact trivial|(apply ad.mk<;>intro hb)|apply av.mk)
   refine hK3 _ _ (i+1,c) (by simp only;omega) ⟨by simp only;omega,fun hcf=>?_⟩ ?_
   ·simp only at hcf ⊢
    rw[hti,htoi,hc hcf,heq]
   ·simp only
    rw[show new.take (i+1)++gi.drop (i+1)=new.take i++gi.drop i from by rw[hti,hdi,heq,List.append_assoc];rfl]
    exact aY (n0:=H.length) [(H.length,0),(H.length+1,0),(H.length+2,0)] hG hB hC' hcl
  ·have X:=And.intro aF (And.intro heq (And.intro hmi hst))
   (refine run ?_;with_reducible repeat' first|exact trivial|(apply ad.mk<;>intro hb)|apply av.mk)
   refine hK3 _ _ (i+1,true) (by simp only;omega) ⟨by simp only;omega,fun hcf=>by cases hcf⟩ ?_
   simp only
   exact aY (n0:=H.length) [(H.length,0),(H.length+1,0),(H.length+2,0)] hG hB hC' hcl
 have hin:i=lams.length:=by omega
 have hnt:new.take i=new:=List.take_of_length_le (by omega)
 have hot:gi.take i=gi:=List.take_of_length_le (by omega)
 have hod:gi.drop i=[]:=List.drop_eq_nil_of_le (by omega)
 rw[hnt,hod,List.append_nil]
 have hni:¬ (i:Int)<(lams.length:Int):=by omega
 clear hK3
 cases c
 ·have hno:new=gi:=by have:=hc rfl;rwa[hnt,hot] at this
  have X:=And.intro aF hni
  (refine run ?_;with_reducible repeat' first|exact trivial|(apply ad.mk<;>intro hb)|apply av.mk)
  rw[hfix (by rw[hno]),← hno] at hR
  refine Fin.bY (n0:=H.length) hR rfl hC' hcl (.tuple _ _ (.cons _ _ _ _ ?_ (.cons _ _ _ _ (.same _ rfl) .nil))) ⟨rfl,rfl⟩
  exact bE.sf (g:=0) (sz:=3) (vals:=aK new) (by rw[cS];rfl) (Nat.le_refl _) (by simp) (by rw[List.drop_zero,List.take_of_length_le (by rw[eH,hnl];exact Nat.le_refl _)]) (bO _ _)
 ·have X:=And.intro aF hni
  (refine run ?_;with_reducible repeat' first|exact trivial|(apply ad.mk<;>intro hb)|apply av.mk)
  refine hK _ _ (r+1) (by omega) (by omega) ?_
  rw[hNW]
  exact aY (n0:=H.length) [(H.length,0),(H.length+1,0)] hG hB hC' hcl
def vS (C0:Cx):Prop:=C0.H=[]∧∃ ev,C0.w.cell? ⟨0,0,none⟩=some ev∧(ev= .nilIface∨∃ te pe,ev= .iface te pe)
theorem vS.ND {C0 c:Cx} (h:vS C0) (hg:Grow C0 c):∃ ev,c.w.cell? ⟨0,0,none⟩=some ev∧(ev= .nilIface∨∃ te pe,ev= .iface te pe):=by
 obtain⟨h0,ev,h1,h2⟩:=h
 refine⟨ev,?_,h2⟩
 have hlt:0<C0.w.heap.size:=Lib.lt_of_cell h1
 have hold:=hg.gi 0 hlt (fun⟨id,o,⟨B,hB,_⟩,_⟩=>by rw[h0] at hB;cases hB)
 rw[← h1]
 unfold World.cell?
 rw[hold]
section
open Go Go.ChangeShapes Go.WideShapes Go.RowKit
theorem own:ownKnob Tryz.prog.godebug=none:=by kernel_rfl
theorem laid:laidOutB Tryz.prog=true:=by kernel_rfl
theorem Nj:Tryz.prog.globalNamed "strconv.ErrSyntax" =some 0:=by kernel_rfl
theorem Fq:(Tryz.prog.globals[0]?).map (·.type)=some 116:=by kernel_rfl
theorem wq:Tryz.prog.cellsOf 202=1:=by kernel_rfl
theorem CI:Tryz.prog.cellsOf 9=1:=by kernel_rfl
theorem star: "*" ++ "errors.errorString" = "*errors.errorString" :=by decide
theorem Eh (u:TypeId) (h:Tryz.prog.typeName? 3 u=some "*errors.errorString"):u=200:=
 typeName_ptr_named (nm:= "errors.errorString") (by rw[star];kernel_rfl) (by kernel_rfl) (by decide) u (by rw[star];exact h)
def GB (W:World):Gl:=⟨[],some (x5 W)⟩
theorem xj (W:World):au (GB W):=fun p hp=>by cases hp
theorem LC (W:World):yz (GB W) (x5 W):=⟨fun p hp=>(by cases hp),fun C0 h=>(by cases h;exact Grow.refl _)⟩
theorem GH {W:World} (h:laidMetH Tryz.prog [("math/bits.deBruijn32tab",Rows.laid_math_bits_deBruijn32tab),("math/bits.deBruijn64tab",Rows.laid_math_bits_deBruijn64tab),("internal/strconv.uint64pow10",Rows.laid_internal_strconv_uint64pow10),("strconv.ErrRange",Rows.laid_strconv_ErrRange),("strconv.ErrSyntax",Rows.laid_strconv_ErrSyntax)] W):vS (x5 W):=by
 have h2:laidMet Tryz.prog [("strconv.ErrSyntax",Rows.laid_strconv_ErrSyntax)] W:=laidMet.tail (laidMet.tail (laidMet.tail (laidMet.tail h)))
 obtain⟨a0,s0,hv0,-,-,-⟩:=laid_sentinel h2 Nj Fq Tryz.underlying116 Eh Tryz.underlying200 Tryz.underlying202 rfl rfl Tryz.underlying9 wq CI
 exact⟨rfl,_,(by have h0:=World.var?_cell Nj hv0 0;show W.cell? _=_;simpa using h0),.inr ⟨_,_,rfl⟩⟩
section
variable {H:Type} {enc:TypeId×Value→H} {W:World} {sp:Nat→Bool}
theorem zw {P:Program} {G:Gl} {f:FuncId} {args:List SV} {vs:List Value} (h:af P G f args [] (fun r H'=>H'=[]∧r= .bool true)) (hg:yz G (x5 W)) (hv:aC (x5 W) args vs) {R:World→Prop} (hR:∀ W',Below W.heap.size W W'→R W'):
 Calls P f vs.toArray W fun e W'=>∃ v,e= .returned v∧v= .bool true∧R W':=by
 refine(callsIn_wide (n:=0)).1 ((h.2 (x5 W) vs rfl (H5 W) hg hv).mono ?_)
 rintro e w' ⟨v,x,c',rfl,hw,⟨_,rfl⟩,_,hx,hg⟩
 simp only[aG] at hx
 exact⟨v,rfl,hx,hR _ (Grow.below hg hw)⟩
end
def zS:DataW Unit→List Value
 | .agg l=>l.map fun
  | .lit (.int k n)=> .int k n
  |_=> .nilFunc
 |_=>[]
def nO (vs:List Value):Obj→Obj
 | .cells _ t fr=> .cells vs.toArray t fr
 |o=>o
noncomputable def oH (os:Os):World:=
 { World.holding Tryz.prog os ⟨#[],#[],[]⟩ with heap:=(((((((World.holding Tryz.prog os ⟨#[],#[],[]⟩).heap.modify 0 (nO [.iface 200 (.pointer (some ⟨(World.holding Tryz.prog os ⟨#[],#[],[]⟩).heap.size,0,none⟩))])).modify 1 (nO [.iface 200 (.pointer (some ⟨(World.holding Tryz.prog os ⟨#[],#[],[]⟩).heap.size+1,0,none⟩))])).modify 2 (nO (zS Rows.laid_internal_strconv_uint64pow10))).modify 3 (nO (zS Rows.laid_math_bits_deBruijn32tab))).modify 4 (nO (zS Rows.laid_math_bits_deBruijn64tab))).push
  (.cells #[.string ⟨#[105,110,118,97,108,105,100,32,115,121,110,116,97,120]⟩] 202 (0,0))).push (.cells #[.string ⟨#[118,97,108,117,101,32,111,117,116,32,111,102,32,114,97,110,103,101]⟩] 202 (0,0))}
end
end Go.Proofs.YtehfihnfeakmaaaGreatDoor
section
open Go
namespace Go.Proofs
open Go.Shelf
def Tryz.vl:Go.Shelf.Ren:=⟨fun|171=>82|243=>126|246=>153|283=>165|284=>166|285=>167|286=>168|129=>140|317=>172|318=>173|319=>174|320=>175|337=>176|338=>177|n=>n,fun|3=>3|9=>9|2=>2|4=>4|171=>192|0=>0|53=>165|37=>171|5=>5|173=>194|212=>204|51=>163|20=>20|213=>205|46=>135|232=>206|233=>207|n=>n,fun|17=>2|18=>3|19=>4|n=>n⟩
theorem Tryz.DE:Go.Proofs.LaysM.n171 Tryz.prog Tryz.vl:={
 mixed:=by kernel_rfl
 f129:=Tryz.func140.trans (congrArg some (by kernel_rfl))
 f171:=Tryz.func82.trans (congrArg some (by kernel_rfl))
 f243:=Tryz.func126.trans (congrArg some (by kernel_rfl))
 f246:=Tryz.func153.trans (congrArg some (by kernel_rfl))
 f283:=Tryz.func165.trans (congrArg some (by kernel_rfl))
 f284:=Tryz.func166.trans (congrArg some (by kernel_rfl))
 f285:=Tryz.func167.trans (congrArg some (by kernel_rfl))
 f286:=Tryz.func168.trans (congrArg some (by kernel_rfl))
 f317:=Tryz.func172.trans (congrArg some (by kernel_rfl))
 f318:=Tryz.func173.trans (congrArg some (by kernel_rfl))
 f319:=Tryz.func174.trans (congrArg some (by kernel_rfl))
 f320:=Tryz.func175.trans (congrArg some (by kernel_rfl))
 f337:=Tryz.func176.trans (congrArg some (by kernel_rfl))
 f338:=Tryz.func177.trans (congrArg some (by kernel_rfl))
 t0:=Tryz.underlying0
 a0:=Tryz.isAgg0
 z0:=Tryz.sizeOf0
 v0:=Tryz.zeroValue0
 t2:=Tryz.underlying2
 a2:=Tryz.isAgg2
 z2:=Tryz.sizeOf2
 v2:=Tryz.zeroValue2
 t3:=Tryz.underlying3
 a3:=Tryz.isAgg3
 z3:=Tryz.sizeOf3
 v3:=Tryz.zeroValue3
 t4:=Tryz.underlying4
 a4:=Tryz.isAgg4
 z4:=Tryz.sizeOf4
 v4:=Tryz.zeroValue4
 t5:=Tryz.underlying5
 a5:=Tryz.isAgg5
 z5:=Tryz.sizeOf5
 v5:=Tryz.zeroValue5
 t9:=Tryz.underlying9
 a9:=Tryz.isAgg9
 z9:=Tryz.sizeOf9
 v9:=Tryz.zeroValue9
 t20:=Tryz.underlying20
 a20:=Tryz.isAgg20
 z20:=Tryz.sizeOf20
 v20:=Tryz.zeroValue20
 t37:=Tryz.underlying171
 a37:=Tryz.isAgg171
 z37:=Tryz.sizeOf171
 v37:=Tryz.zeroValue171
 t46:=Tryz.underlying135
 a46:=Tryz.isAgg135
 z46:=Tryz.sizeOf135
 v46:=Tryz.zeroValue135
 t51:=Tryz.underlying163
 a51:=Tryz.isAgg163
 z51:=Tryz.sizeOf163
 v51:=Tryz.zeroValue163
 t53:=Tryz.underlying165
 a53:=Tryz.isAgg165
 z53:=Tryz.sizeOf165
 v53:=Tryz.zeroValue165
 t171:=Tryz.underlying192
 a171:=Tryz.isAgg192
 z171:=Tryz.sizeOf192
 v171:=Tryz.zeroValue192
 t173:=Tryz.underlying194
 a173:=Tryz.isAgg194
 z173:=Tryz.sizeOf194
 v173:=Tryz.zeroValue194
 t212:=Tryz.underlying204
 a212:=Tryz.isAgg204
 z212:=Tryz.sizeOf204
 v212:=Tryz.zeroValue204
 t213:=Tryz.underlying205
 a213:=Tryz.isAgg205
 z213:=Tryz.sizeOf205
 t232:=Tryz.underlying206
 a232:=Tryz.isAgg206
 z232:=Tryz.sizeOf206
 v232:=Tryz.zeroValue206
 t233:=Tryz.underlying207
 a233:=Tryz.isAgg207
 z233:=Tryz.sizeOf207
 v233:=Tryz.zeroValue207
 g17:=by kernel_rfl
 g18:=by kernel_rfl
 g19:=by kernel_rfl
 i0:=by kernel_rfl
 i2:=by kernel_rfl
 i3:=by kernel_rfl
 i4:=by kernel_rfl
 i5:=by kernel_rfl
 i9:=by kernel_rfl
 i20:=by kernel_rfl
 i37:=by kernel_rfl
 i46:=by kernel_rfl
 i51:=by kernel_rfl
 i53:=by kernel_rfl
 i171:=by kernel_rfl
 i173:=by kernel_rfl
 i212:=by kernel_rfl
 i232:=by kernel_rfl
 i233:=by kernel_rfl
 m17:=by kernel_rfl
 m18:=by kernel_rfl
 m19:=by kernel_rfl}
open Go.RowKit Go.Sort Go.Lib in
theorem Tryz.strconv_Itoa (n:Int) (h0: -9223372036854775808≤n) (h1:n≤9223372036854775807) (w:World) (htab:Lib.TabIs Tryz.prog w "internal/strconv.uint64pow10" .u64 Lib.pow10Tab):
 Calls Tryz.prog 82 #[.int .i64 n] w fun e w'=>e= .returned (.string ⟨(Lib.itoa n).toArray⟩)∧∃ k os,w'=grow (w.drewN k) os:=Any.strconv_Itoa Tryz.DE n h0 h1 w htab
open Go.RowKit Go.Sort Go.Lib in
theorem Tryz.strconv_Atoi_ok (s:ByteArray) (hmax:s.size≤9223372036854775806) (v:Int) (h:Lib.atoiAll s.data.toList= .ok v) (w:World):
 Calls Tryz.prog 81 #[.string s] w fun e w'=>e= .returned (.tuple #[.int .i64 v,.nilIface])∧(w'=w∨∃ t,w'=Lib.bytesWorld w 5 t):=Any.strconv_Atoi_ok Tryz.nH s hmax v h w
open Go.RowKit Go.Sort Go.Lib in
theorem Tryz.oT (s:ByteArray) (hlim:s.size≤281474976710656) (h:Lib.atoiAll s.data.toList=Lib.atoiAll []) (ev:Value) (w:World) (hv:w.cell? ⟨0,0,none⟩=some ev) (hev:ev= .nilIface∨∃ te pe,ev= .iface te pe):
 Calls Tryz.prog 81 #[.string s] w fun e w'=>∃ N,e= .returned (.tuple #[.int .i64 0,.iface 174 (.pointer (some ⟨N,0,none⟩))])∧w.heap.size≤N∧w'.heap[N]? =some (.cells #[.string ⟨#[65,116,111,105]⟩,.string s,ev] 190 (0,0))∧Below w.heap.size w w':=Any.strconv_Atoi_syntax Tryz.nH s hlim h ev w hv hev
open Go.RowKit Go.Sort Go.Lib in
theorem Tryz.strconv_Atoi_range (s:ByteArray) (hlim:s.size≤281474976710656) (h:Lib.atoiAll s.data.toList= .range) (ev:Value) (w:World) (hv:w.cell? ⟨1,0,none⟩=some ev) (hev:ev= .nilIface∨∃ te pe,ev= .iface te pe):
 Calls Tryz.prog 81 #[.string s] w fun e w'=>∃ N,e= .returned (.tuple #[.int .i64 (Lib.atoiSat s.data.toList),.iface 174 (.pointer (some ⟨N,0,none⟩))])∧w.heap.size≤N∧w'.heap[N]? =some (.cells #[.string ⟨#[65,116,111,105]⟩,.string s,ev] 190 (0,0))∧Below w.heap.size w w':=Any.strconv_Atoi_range Tryz.nH s hlim h ev w hv hev
end Go.Proofs
end
namespace Go.Proofs.YtehfihnfeakmaaaGreatDoor
open Go
structure p6 (C0:Cx):Prop where
 h:C0.H=[]
 es:∃ ev,C0.w.cell? ⟨0,0,none⟩=some ev∧(ev= .nilIface∨∃ te pe,ev= .iface te pe)
 er:∃ ev,C0.w.cell? ⟨1,0,none⟩=some ev∧(ev= .nilIface∨∃ te pe,ev= .iface te pe)
 NE:Lib.TabIs Tryz.prog C0.w "internal/strconv.uint64pow10" .u64 Lib.pow10Tab
theorem yh {C0 c:Cx} (h0:C0.H=[]) (hg:Grow C0 c) {k:Nat} {v:Value} (h:C0.w.cell? ⟨k,0,none⟩=some v):c.w.cell? ⟨k,0,none⟩=some v:=by
 have hlt:k<C0.w.heap.size:=Lib.lt_of_cell h
 have hold:=hg.gi k hlt (fun⟨id,o,⟨B,hB,_⟩,_⟩=>by rw[h0] at hB;cases hB)
 rw[← h]
 unfold World.cell?
 rw[hold]
theorem Gk {C0 c:Cx} (h0:C0.H=[]) (hg:Grow C0 c) {n:String} {k:IntKind} {zs:List Int} (h:Lib.TabIs Tryz.prog C0.w n k zs):Lib.TabIs Tryz.prog c.w n k zs:=by
 unfold Lib.TabIs World.var? at h ⊢
 cases hg2:Tryz.prog.globalNamed n with
 |none=>rw[hg2] at h;cases h
 |some g=>
  rw[hg2] at h
  simp only[Option.bind_some] at h ⊢
  split at h
  ·rename_i cs T fr hc
   have hlt:g<C0.w.heap.size:=(Array.getElem?_eq_some_iff.1 hc).1
   have hold:=hg.gi g hlt (fun⟨id,o,⟨B,hB,_⟩,_⟩=>by rw[h0] at hB;cases hB)
   rw[hold,hc]
   exact h
  ·cases h
theorem af.xV {P:Program} {G:Gl} {f:FuncId} {args:List SV} {H:List ax} {R:SV→Prop} (hf:∃ fn,P.funcs[f]? =some fn∧(fn.name== "runtime.NumGoroutine")=false∧fn.body.isNone=false)
 (hc:∀ (c:Cx) vs,yz G c→aC c args vs→Calls P f vs.toArray c.w fun e w'=>∃ v x,e= .returned v∧(∀ c,aG c x v)∧R x∧Go.RowKit.Below c.w.heap.size c.w w'):
 af P G f args H (fun r H'=>H'=H∧R r):=by
 refine⟨hf,fun c vs e1 hh hG hv=>?_⟩
 subst e1
 refine(callsIn_wide (n:=0)).2 ?_
 refine(hc c vs hG hv).mono ?_
 rintro e w' ⟨v,x,rfl,hx,hr,hb⟩
 obtain⟨g1,g2⟩:=Cx.world hh (w':=w') (fun b h=>hb.block b h) hb.size hb.os hb.tape hb.output
 exact⟨v,x,{ c with w:=w'},rfl,rfl,⟨rfl,hr⟩,g2,hx _,g1⟩
theorem mK:∀ (k u:Nat),u<10 ^ (k+1)→Lib.nDigits u≤k+1
 |0,u,h=>by rw[Lib.nDigits_small (by simpa using h)];exact Nat.le_refl _
 |k+1,u,h=>by
  by_cases hu:u<10
  ·rw[Lib.nDigits_small hu];omega
  ·rw[Lib.nDigits_big hu]
   have:=mK k (u / 10) (by rw[Nat.pow_succ] at h;omega)
   omega
theorem fW (n:Int) (h0: -9223372036854775808≤n) (h1:n≤9223372036854775807):(Lib.itoa n).length≤20:=by
 unfold Lib.itoa
 split
 ·rw[List.length_cons,Lib.decDigits_length]
  have:=mK 18 n.natAbs (by omega)
  omega
 ·rw[Lib.decDigits_length]
  have:=mK 18 n.toNat (by omega)
  omega
theorem Aw (G:Gl) (C0:Cx) (hb:G.base=some C0) (hl:p6 C0) (n:Int) (h0: -9223372036854775808≤n) (h1:n≤9223372036854775807) (H:List ax):
 af Tryz.prog G 82 [.int .i64 n] H (fun r H'=>H'=H∧r= .str (Lib.itoa n)):=by
 refine af.xV ⟨_,Tryz.func82,by decide,rfl⟩ fun c vs hg hv=>?_
 obtain⟨v,us,hv1,hv2,rfl⟩:=aC.ba.1 hv
 rw[aC.dk.1 hv2]
 simp only[aG] at hv1
 obtain⟨rfl,_⟩:=hv1
 refine(Tryz.strconv_Itoa n h0 h1 c.w (Gk hl.h (hg.2 C0 hb) hl.NE)).mono ?_
 rintro e w' ⟨rfl,k,os,rfl⟩
 refine⟨_,.str (Lib.itoa n),rfl,fun c=>?_,rfl,Go.Lib.below_grow _ _ (Nat.le_refl _) k os⟩
 simp only[aG]
 exact⟨trivial,by have:=fW n h0 h1;unfold maxLen;omega⟩
def gI (s:aE):Int×Bool:=match Lib.atoiAll s with
 | .ok v=>(v,true)
 | .range=>(Lib.atoiSat s,false)
 |_=>(0,false)
theorem Ae (G:Gl) (C0:Cx) (hb:G.base=some C0) (hl:p6 C0) (s:aE) (hs:s.length<4294967296) (H:List ax):
 af Tryz.prog G 81 [.str s] H (fun r H'=>H'=H∧r= .tuple [.int .i64 (gI s).1,.jI (gI s).2]):=by
 refine af.xV ⟨_,Tryz.func81,by decide,rfl⟩ fun c vs hg hv=>?_
 obtain⟨v,us,hv1,hv2,rfl⟩:=aC.ba.1 hv
 rw[aC.dk.1 hv2]
 simp only[aG] at hv1
 obtain⟨rfl,_⟩:=hv1
 have hsz:(⟨⟨s⟩⟩:ByteArray).size=s.length:=rfl
 have tell:∀ (c:Cx) (n:Int) (z:Bool) (v:Value),(IntKind.i64.min≤n∧n≤IntKind.i64.max)→aG c (.jI z) v→v.oneCell'=true→aG c (.tuple [.int .i64 n,.jI z]) (.tuple #[.int .i64 n,v]):=fun c n z v hn hz _=>by
  simp only[aG]
  exact⟨[.int .i64 n,v],aC.bB (by simp only[aG];exact⟨trivial,hn⟩) (aC.bB hz aC.bX),rfl⟩
 rcases ha:Lib.atoiAll s with n|_|_
 ·obtain⟨vb0,vb1⟩:=Lib.atoiAll_bounds ha
  refine(Tryz.strconv_Atoi_ok ⟨⟨s⟩⟩ (by rw[hsz];omega) n ha c.w).mono ?_
  rintro e w' ⟨rfl,hw⟩
  refine⟨_,.tuple [.int .i64 n,.jI true],rfl,fun c=>tell c n true _ ⟨vb0,vb1⟩ (by simp only[aG]) rfl,by simp only[gI,ha],?_⟩
  rcases hw with rfl|⟨t,rfl⟩
  ·exact Go.RowKit.Below.refl _ _
  ·exact Lib.bytesWorld_below _ _ _
 ·obtain⟨ev,h1,h2⟩:=hl.es
  refine(Tryz.oT ⟨⟨s⟩⟩ (by rw[hsz];omega) ha ev c.w (yh hl.h (hg.2 C0 hb) h1) h2).mono ?_
  rintro e w' ⟨N,rfl,_,_,hbw⟩
  exact⟨_,.tuple [.int .i64 0,.jI false],rfl,fun c=>tell c 0 false _ (by decide) (by simp only[aG];exact⟨_,_,rfl⟩) rfl,by simp only[gI,ha],hbw⟩
 ·obtain⟨ev,h1,h2⟩:=hl.er
  obtain⟨sb0,sb1⟩:=Lib.atoiSat_bounds s
  refine(Tryz.strconv_Atoi_range ⟨⟨s⟩⟩ (by rw[hsz];omega) ha ev c.w (yh hl.h (hg.2 C0 hb) h1) h2).mono ?_
  rintro e w' ⟨N,rfl,_,_,hbw⟩
  exact⟨_,.tuple [.int .i64 (Lib.atoiSat s),.jI false],rfl,fun c=>tell c _ false _ ⟨sb0,sb1⟩ (by simp only[aG];exact⟨_,_,rfl⟩) rfl,by simp only[gI,ha],hbw⟩
section
open Go Go.ChangeShapes Go.WideShapes Go.RowKit
theorem Ni:Tryz.prog.globalNamed "strconv.ErrRange" =some 1:=by kernel_rfl
theorem Fp:(Tryz.prog.globals[1]?).map (·.type)=some 116:=by kernel_rfl
theorem Nt:Tryz.prog.globalNamed "internal/strconv.uint64pow10" =some 2:=by kernel_rfl
theorem Fu:(Tryz.prog.globals[2]?).map (·.type)=some 204:=by kernel_rfl
theorem CG:Tryz.prog.cellsOf 165=1:=by kernel_rfl
theorem CH:Tryz.prog.cellsOf 204=20:=by kernel_rfl
theorem Le:(Rows.laid_internal_strconv_uint64pow10:DataW Unit)=Lib.tabData .u64 Lib.pow10Tab:=by kernel_rfl
theorem IX {W:World} (h:laidMetH Tryz.prog [("math/bits.deBruijn32tab",Rows.laid_math_bits_deBruijn32tab),("math/bits.deBruijn64tab",Rows.laid_math_bits_deBruijn64tab),("internal/strconv.uint64pow10",Rows.laid_internal_strconv_uint64pow10),("strconv.ErrRange",Rows.laid_strconv_ErrRange),("strconv.ErrSyntax",Rows.laid_strconv_ErrSyntax)] W):p6 (x5 W):=by
 have h3:laidMet Tryz.prog [("internal/strconv.uint64pow10",Rows.laid_internal_strconv_uint64pow10),("strconv.ErrRange",Rows.laid_strconv_ErrRange),("strconv.ErrSyntax",Rows.laid_strconv_ErrSyntax)] W:=laidMet.tail (laidMet.tail h)
 have h4:laidMet Tryz.prog [("strconv.ErrRange",Rows.laid_strconv_ErrRange),("strconv.ErrSyntax",Rows.laid_strconv_ErrSyntax)] W:=laidMet.tail h3
 refine⟨rfl,(GH h).2,?_,?_⟩
 ·obtain⟨a0,s0,hv0,-,-,-⟩:=laid_sentinel h4 Ni Fp Tryz.underlying116 Eh Tryz.underlying200 Tryz.underlying202 rfl rfl Tryz.underlying9 wq CI
  exact⟨_,(by have h0:=World.var?_cell Ni hv0 0;show W.cell? _=_;simpa using h0),.inr ⟨_,_,rfl⟩⟩
 ·rw[Le] at h3
  exact Lib.tabIs_of_head Nt Fu Tryz.underlying204 Tryz.underlying165 CG CH h3
theorem Hh (W:World):eS (GB W) 0:=fun C1 e=>by cases e;exact Nat.le_refl _
end
section
open Go Go.ChangeShapes Go.WideShapes Go.RowKit
section
variable {H:Type} {enc:TypeId×Value→H} {W:World} {sp:Nat→Bool}
theorem Ec (n:Nat):Rd enc Tryz.prog W sp n 23 (fun l:List Bd=>[.list 9 (ah l)]) (fun l=>1+aM l):=by
 have h:=jD (enc:=enc) (P:=Tryz.prog) (W:=W) (sp:=sp) (t:=23) (e:=54) true (f:=Bd.cells) (wt:=Bd.wt) (n:=9) (N:=n) (by kernel_rfl) (by kernel_rfl) (by kernel_rfl) (by omega) (.inl rfl) (fun m _=>(Gd m).2.1)
 intro cs x hx
 obtain⟨a,h1,h2,h3⟩:=h cs x hx
 have e:(a.map fun x=>bx true x.cells)=ah a:=by rw[aV];rfl
 have h1:Good W [SV.list 9 (a.map fun x=>bx true x.cells)] cs:=h1
 rw[e] at h1
 exact⟨a,h1,h2,by show 1+aM a≤_;rw[cg];exact h3⟩
end
end
section
open Go Go.ChangeShapes Go.WideShapes Go.RowKit
def Cn.wt (c:Cn):Nat:=c.name.length+4
def Od.wt (o:Od):Nat:=o.name.length+3+o.bN.length
section
variable {H:Type} {enc:TypeId×Value→H} {W:World} {sp:Nat→Bool}
theorem Gc (n:Nat):Rd enc Tryz.prog W sp n 76 Cn.cells Cn.wt:=by
 intro cs x hx
 obtain⟨xs,m,hm,rfl,hl,hlen,hf⟩:=DataW.trod_struct Tryz.underlying76 hx
 obtain⟨z0,z1,z2,z3,rfl⟩:∃ z0 z1 z2 z3,xs=[z0,z1,z2,z3]:=by
  match xs,(show xs.length=4 from hlen) with
  |[a,b,c,d],_=>exact⟨a,b,c,d,rfl⟩
 have hsz:Tryz.prog.cellsOf 76=4:=by kernel_rfl
 obtain⟨y0,s,e0,g0,w0⟩:=cD hf 0 0 1 (by kernel_rfl) (by kernel_rfl) (lA m) (by simp)
 obtain⟨y1,a,e1,g1,w1⟩:=cD hf 1 1 1 (by kernel_rfl) (by kernel_rfl) (fZ m) (by simp)
 obtain⟨y2,b,e2,g2,w2⟩:=cD hf 2 2 1 (by kernel_rfl) (by kernel_rfl) (fZ m) (by simp)
 obtain⟨y3,c,e3,g3,w3⟩:=cD hf 3 3 1 (by kernel_rfl) (by kernel_rfl) (fZ m) (by simp)
 rw[hsz] at hl
 refine⟨⟨s,a,b,c⟩,?_,by rw[hsz,hl],?_⟩
 ·have:(Cn.mk s a b c).cells=[.str s]++([.int .i64 a]++([.int .i64 b]++([.int .i64 c]++[]))):=rfl
  rw[this,← List.drop_zero (l:=cs)]
  refine .cut g0 (.cut g1 (.cut g2 (.cut g3 ?_)))
  rw[List.drop_eq_nil_of_le (by omega)]
  exact .nil
 ·cases e0;cases e1;cases e2;cases e3
  simp only[Rows.uptoBulk,Rows.uptoBulkAll,List.map_cons,List.map_nil,Cn.wt]
  omega
theorem Ed (n:Nat):Rd enc Tryz.prog W sp n 22 (fun l:List Cn=>[.list 4 (aH l)]) (fun l=>1+(l.map Cn.wt).sum):=
 jD (enc:=enc) (P:=Tryz.prog) (W:=W) (sp:=sp) (t:=22) (e:=76) true (f:=Cn.cells) (wt:=Cn.wt) (n:=4) (N:=n) (by kernel_rfl) (by kernel_rfl) (by kernel_rfl) (by omega) (.inl rfl) (fun m _=>Gc m)
def Pg.wt (p:Pg):Nat:=2+(p.cons.map Cn.wt).sum+aM p.binds
theorem Ge (n:Nat):Rd enc Tryz.prog W sp n 25 Pg.cells Pg.wt:=by
 intro cs x hx
 obtain⟨xs,m,hm,rfl,hl,hlen,hf⟩:=DataW.trod_struct Tryz.underlying25 hx
 obtain⟨z0,z1,rfl⟩:=AF (show xs.length=2 from hlen)
 have hsz:Tryz.prog.cellsOf 25=2:=by kernel_rfl
 obtain⟨y0,c,e0,g0,w0⟩:=cD hf 0 0 1 (by kernel_rfl) (by kernel_rfl) (Ed m) (by simp)
 obtain⟨y1,b,e1,g1,w1⟩:=cD hf 1 1 1 (by kernel_rfl) (by kernel_rfl) (Ec m) (by simp)
 rw[hsz] at hl
 refine⟨⟨c,b⟩,?_,by rw[hsz,hl],?_⟩
 ·have:(Pg.mk c b).cells=[.list 4 (aH c)]++([.list 9 (ah b)]++[]):=rfl
  rw[this,← List.drop_zero (l:=cs)]
  refine .cut g0 (.cut g1 ?_)
  rw[List.drop_eq_nil_of_le (by omega)]
  exact .nil
 ·cases e0;cases e1
  simp only[Rows.uptoBulk,Rows.uptoBulkAll,List.map_cons,List.map_nil,Pg.wt]
  omega
end
theorem AT {α:Type} {f:α→Nat} (h:∀ x,1≤f x):∀ l:List α,l.length≤(l.map f).sum
 |[]=>Nat.zero_le _
 |x::l=>by have:=h x;have:=AT h l;simp only[List.length_cons,List.map_cons,List.sum_cons];omega
theorem AS {l:List aE} {s:aE} (h:s∈l):s.length≤db l:=by
 induction l with
 |nil=>cases h
 |cons x r ih=>
  simp only[db]
  rcases List.mem_cons.1 h with rfl|h
  ·omega
  ·have:=ih h;omega
theorem pG:∀ (m:Nat) (e:Ex) {s:aE},s∈dL m e→s.length≤e.wt
 |0,e,s,h=>by cases h
 |m+1,.mk kd nm nn op names ae binds alts,s,h=>by
  have h1:dL (m+1) (.mk kd nm nn op names ae binds alts)=(if kd=3 then names else [])++ae.flatMap (dL m)++binds.flatMap (fun b=>b.name::dL m b.e)++(if kd=6 then [nm] else [])++alts.flatMap (fun a=>a.names++dL m a.body):=rfl
  rw[h1] at h
  have hp:=Ex.bM kd nm nn op names ae binds alts
  simp only[List.mem_append,List.mem_flatMap] at h
  rcases h with (((h|⟨x,hx,h⟩)|⟨b,hb,h⟩)|h)|⟨a,ha,h⟩
  ·split at h
   ·have:=AS h;simp only[Ex.wt];omega
   ·cases h
  ·have:=pG m x h
   have:=Ex.bT (e:= .mk kd nm nn op names ae binds alts) (p:=x) (by rw[hp];exact List.mem_append_left _ hx)
   omega
  ·rcases List.mem_cons.1 h with rfl|h
   ·have h2:b.name.length+b.e.wt≤b.wt:=by obtain⟨q,e⟩:=b;simp only[Bd.wt,Bd.name,Bd.e];omega
    have h3:b.wt≤aM binds:=by
     clear h1 h2 hp
     induction binds with
     |nil=>cases hb
     |cons y r ih=>
      simp only[aM]
      rcases List.mem_cons.1 hb with rfl|hb
      ·omega
      ·have:=ih hb;omega
    simp only[Ex.wt];omega
   ·have:=pG m b.e h
    have:=Ex.bT (e:= .mk kd nm nn op names ae binds alts) (p:=b.e) (by rw[hp];exact List.mem_append_right _ (List.mem_append_left _ (List.mem_map.2 ⟨b,hb,rfl⟩)))
    omega
  ·split at h
   ·rw[List.mem_singleton.1 h];simp only[Ex.wt];omega
   ·cases h
  ·rcases h with h|h
   ·have h2:=AS h
    have h3:=ek ha
    obtain⟨ak,an,am,al,ab⟩:=a
    simp only[Al.wt,Al.names,Ex.wt] at*
    omega
   ·have:=pG m a.body h
    have:=Ex.bT (e:= .mk kd nm nn op names ae binds alts) (p:=a.body) (by rw[hp];exact List.mem_append_right _ (List.mem_append_right _ (List.mem_map.2 ⟨a,ha,rfl⟩)))
    omega
theorem Hi {l:List Bd} {b:Bd} (hb:b∈l):b.wt≤aM l:=by
 induction l with
 |nil=>cases hb
 |cons y r ih=>
  simp only[aM]
  rcases List.mem_cons.1 hb with rfl|hb
  ·omega
  ·have:=ih hb;omega
theorem wj {l:List Bd} {s:aE} (h:s∈aP l):s.length≤aM l:=by
 obtain⟨b,hb,h⟩:=List.mem_flatMap.1 h
 have h3:=Hi hb
 have h2:b.name.length≤b.wt∧b.e.wt≤b.wt:=by obtain⟨q,e⟩:=b;simp only[Bd.wt,Bd.name,Bd.e];omega
 rcases List.mem_cons.1 h with rfl|h
 ·omega
 ·have:=pG _ _ h;omega
end
theorem zN:∀ (l:List Bd) (t:List (aE×Int)) (s:aE),cv (l.foldl (fun t b=>mN t b.name 1) t) s=if s∈l.map Bd.name then 1 else cv t s
 |[],t,s=>by simp
 |b::r,t,s=>by
  rw[List.foldl_cons,zN r,mX,List.map_cons]
  by_cases h1:s∈r.map Bd.name
  ·rw[if_pos h1,if_pos (List.mem_cons_of_mem _ h1)]
  ·by_cases h2:s=b.name
   ·rw[if_neg h1,if_pos h2,if_pos (by rw[h2];exact List.mem_cons_self ..)]
   ·rw[if_neg h1,if_neg h2,if_neg (fun h=>(List.mem_cons.1 h).elim h2 h1)]
theorem xg:∀ (a b:List Od) (s:aE),bH (a++b) s=(bH a s).or (bH b s)
 |[],_,_=>rfl
 |o::r,b,s=>by
  rw[List.cons_append,bH,bH]
  split
  ·rfl
  ·exact xg r b s
theorem qO:∀ (r k:List Od) (s:aE),bH (bc k r) s=(bH k s).or (bH r s)
 |[],k,s=>by rw[bc,bH,Option.or_none]
 |o::r,k,s=>by
  rw[bc,bH]
  split
  ·rename_i h
   rw[qO r k s]
   split
   ·rename_i e
    subst e
    obtain⟨x,hx⟩:=Option.isSome_iff_exists.1 h
    rw[hx];rfl
   ·rfl
  ·rw[qO r _ s,xg,bH,bH]
   split
   ·cases bH k s<;>rfl
   ·rw[Option.or_none]
theorem yK {k k':List Od} (h:∀ s,bH k s=bH k' s) (e:Ex):cu k e=cu k' e:=by
 unfold cu cN
 simp only[h]
theorem Dn (G:Gl) (l:List aE) (v:aE) (H:List ax) (id g:Nat) (hid:H[id]? =some (.cells g 1 (l.map .str))) (hl:l.length<4611686018427387904):
 af Tryz.prog G 18 [.sl id g 0 l.length,.str v] H (fun r H'=>H'=H∧r= .bool (decide (v∈l))):=by
 refine af.aD TB [] aA _ Tryz.func18 rfl (by decide) Tryz.ntmps18 (by simp) rfl (by simp only[ap,Nat.reduceAdd];rfl) fun C R' hR hC hcl hB=>?_;have X:=aF;have hC':=congrArg List.length hC
 have X:=And.intro X hid
 (refine run ?_;with_reducible repeat' first|exact trivial|(apply ad.mk<;>intro hb)|apply av.mk)
 refine az (fun i:Nat=>[(0,.sl id g 0 l.length),(1,.str v),(5,.int .i64 i)]) (fun _=>H) (fun i=>l.length - i) (fun i=>i≤l.length∧v∉l.take i) 0 ⟨Nat.zero_le _,by simp⟩ (Wk.sub (by simp[bg,look])) ?_
 rintro K i ⟨hi,hni⟩ hK
 rcases Nat.lt_or_ge i l.length with hlt|hge
 ·have hg:(l.map SV.str)[i]? =some (.str l[i]):=by simp[hlt]
  have hm:l[i]∈l:=List.getElem_mem hlt
  have hts:=List.take_succ_eq_append_getElem hlt
  generalize l[i]=x at*
  by_cases hx:x=v
  ·rw[decide_eq_true (hx ▸ hm)] at hR
   have X:=And.intro aF (And.intro hid (And.intro hg hx))
   clear hK
   (refine run ?_;with_reducible repeat' first|exact trivial|(apply ad.mk<;>intro hb)|apply av.mk)
   exact Fin.out hR ⟨rfl,rfl⟩
  ·have X:=And.intro aF (And.intro hid (And.intro hg hx))
   (refine run ?_;with_reducible repeat' first|exact trivial|(apply ad.mk<;>intro hb)|apply av.mk)
   exact hK _ _ (i+1) (by omega) ⟨by omega,by rw[hts,List.mem_append,List.mem_singleton];rintro (h|h);exact hni h;exact hx h.symm⟩ (Wk.sub (by simp[bg,look]))
 ·rw[List.take_of_length_le hge] at hni
  rw[decide_eq_false hni] at hR
  have hnl:¬ (i:Int)<(l.length:Int):=by omega
  have X:=And.intro aF (And.intro hid hnl)
  clear hK
  (refine run ?_;with_reducible repeat' first|exact trivial|(apply ad.mk<;>intro hb)|apply av.mk)
  exact Fin.out hR ⟨rfl,rfl⟩
theorem zr (l more:List aE) {i:Nat} (h:i<more.length):cn l (more.take (i+1))=fz (cn l (more.take i)) more[i]:=by
 rw[List.take_succ_eq_append_getElem h,cn,List.foldl_append];rfl
theorem vz (G:Gl) (hG:au G) (l more:List aE) (hl:l.length+more.length<1099511627776) (H:List ax):
 af Tryz.prog G 76 [.list 1 (l.map .str),.list 1 (more.map .str)] H (fun r H'=>H'=H∧r= .list 1 ((cn l more).map .str)):=by
 refine af.aD TB [5] aA _ Tryz.func76 rfl (by decide) Tryz.ntmps76 (by simp) rfl (by simp only[ap,Nat.reduceAdd];rfl) fun C R' hR hC hcl hB=>?_;have X:=aF;have hC':=congrArg List.length hC
 have hlm:(l.map SV.str).length=l.length:=List.length_map ..
 have X:=And.intro X hlm
 (refine run ?_;with_reducible repeat' first|exact trivial|(apply ad.mk<;>intro hb)|apply av.mk)
 refine az (fun i:Nat=>[(0,.list 1 (l.map .str)),(1,.list 1 (more.map .str)),(5,.sl H.length 0 0 (cn l (more.take i)).length),(6,.int .i64 i)]) (fun i=>H++[.cells 0 1 ((cn l (more.take i)).map .str)]) (fun i=>more.length - i) (fun i=>i≤more.length) 0 (Nat.zero_le _) ?_ ?_
 ·simp only[List.take_zero,show cn l []=l from rfl]
  exact aY (n0:=H.length) [(H.length,0)] hG hB hC' hcl
 rintro K i hi hK
 rcases Nat.lt_or_ge i more.length with hlt|hge
 ·have hg:(more.map SV.str)[i]? =some (.str more[i]):=by simp[hlt]
  have hjt:=zr l more hlt
  have hjl:=oE l (more.take i)
  rw[List.length_take] at hjl
  generalize more[i]=x at*
  generalize cn l (more.take i)=J at*
  have hh:=fun L=>Dn G J x (H++ .cells 0 1 (J.map .str)::L) H.length 0 (by rw[cS];rfl) (by omega)
  have hJm:(J.map SV.str).length=J.length:=List.length_map ..
  have X:=And.intro aF (And.intro hg hJm)
  (refine run ?_;with_reducible repeat' first|exact trivial|(apply ad.mk<;>intro hb)|apply av.mk)
  refine bt (hh _) ?_
  rintro r H' ⟨rfl,rfl⟩
  by_cases hx:x∈J
  ·rw[fz,if_pos hx] at hjt
   rw[decide_eq_true hx]
   have X:=And.intro aF (And.intro hg hJm)
   (refine run ?_;with_reducible repeat' first|exact trivial|(apply ad.mk<;>intro hb)|apply av.mk)
   refine hK _ _ (i+1) (by omega) (by omega) ?_
   rw[hjt]
   exact aY (n0:=H.length) [(H.length,0)] hG hB hC' hcl
  ·rw[fz,if_neg hx] at hjt
   rw[decide_eq_false hx]
   have X:=And.intro aF (And.intro hg hJm)
   (refine run ?_;with_reducible repeat' first|exact trivial|(apply ad.mk<;>intro hb)|apply av.mk)
   refine hK _ _ (i+1) (by omega) (by omega) ?_
   rw[hjt,List.map_append,List.map_cons,List.map_nil,List.length_append,List.length_cons,List.length_nil]
   exact aY (n0:=H.length) [(H.length,0)] hG hB hC' hcl
 clear hK
 have hni:¬ (i:Int)<(more.length:Int):=by omega
 rw[List.take_of_length_le hge]
 have X:=And.intro aF hni
 (refine run ?_;with_reducible repeat' first|exact trivial|(apply ad.mk<;>intro hb)|apply av.mk)
 exact aS (n0:=H.length) hR hC' hcl (bE.sf (by rw[cS];rfl) (by omega) (by simp) (by rw[List.drop_zero,List.take_of_length_le (by simp)]) (bp _ _)) ⟨rfl,rfl⟩
theorem ye (G:Gl) (hG:au G) (l names:List aE) (hl:l.length<1099511627776) (hn:names.length<1099511627776) (H:List ax):
 af Tryz.prog G 78 [.list 1 (l.map .str),.list 1 (names.map .str)] H (fun r H'=>H'=H∧r= .list 1 ((cp l names).map .str)):=by
 refine af.aD TB [] aA _ Tryz.func78 rfl (by decide) Tryz.ntmps78 (by simp) rfl (by simp only[ap,Nat.reduceAdd];rfl) fun C R' hR hC hcl hB=>?_;have X:=aF;have hC':=congrArg List.length hC
 (refine run ?_;with_reducible repeat' first|exact trivial|(apply ad.mk<;>intro hb)|apply av.mk)
 refine az (fun i:Nat=>[(0,.list 1 (l.map .str)),(1,.list 1 (names.map .str)),(5,.int .i64 i)]) (fun i=>H) (fun i=>l.length - i) (fun i=>i≤l.length∧cp l names=l.take i++cp (l.drop i) names) 0 ⟨Nat.zero_le _,rfl⟩ ?_ ?_
 ·exact Wk.sub (by simp[bg,look])
 rintro K i ⟨hi,hu⟩ hK
 rcases Nat.lt_or_ge i l.length with hlt|hge
 ·have hg:(l.map SV.str)[i]? =some (.str l[i]):=by simp[hlt]
  have hts:=List.take_succ_eq_append_getElem hlt
  have hcons:cp (l[i]::l.drop (i+1)) names=if (!decide (l[i]∈names))=true then l[i]::cp (l.drop (i+1)) names else []:=by unfold cp;rw[List.takeWhile_cons]
  rw[List.drop_eq_getElem_cons hlt,hcons] at hu
  clear hcons
  generalize l[i]=x at*
  have c1:=fun H=>ji G names x H (by omega)
  by_cases hx:x∈names
  ·rw[decide_eq_true hx] at c1 hu
   rw[Bool.not_true,if_neg Bool.false_ne_true,List.append_nil] at hu
   rw[hu] at hR
   have hlt2:i≤l.length:=by omega
   have htk:List.take i (l.map SV.str)=(l.take i).map SV.str:=by rw[List.map_take]
   have hi0:i - 0=i:=rfl
   have X:=And.intro aF (And.intro hg (And.intro htk hi0))
   clear hK
   (refine run ?_;with_reducible repeat' first|exact trivial|(apply ad.mk<;>intro hb)|apply av.mk)
   exact Fin.out hR ⟨rfl,rfl⟩
  ·rw[decide_eq_false hx] at c1 hu
   rw[Bool.not_false,if_pos rfl] at hu
   have X:=And.intro aF hg
   (refine run ?_;with_reducible repeat' first|exact trivial|(apply ad.mk<;>intro hb)|apply av.mk)
   exact hK _ _ (i+1) (by omega) ⟨by omega,by rw[hu,hts,List.append_assoc];rfl⟩ (Wk.sub (by simp[bg,look]))
 ·clear hK
  have hni:¬ (i:Int)<(l.length:Int):=by omega
  rw[List.drop_eq_nil_of_le hge,List.take_of_length_le hge,show cp [] names=[] from rfl,List.append_nil] at hu
  rw[hu] at hR
  have X:=And.intro aF hni
  (refine run ?_;with_reducible repeat' first|exact trivial|(apply ad.mk<;>intro hb)|apply av.mk)
  exact Fin.out hR ⟨rfl,rfl⟩
theorem vd {l:List Od} {s:aE} {i:Nat} (hi:i<l.length):bH (l.drop i) s=if s=l[i].name then some l[i] else bH (l.drop (i+1)) s:=by
 rw[List.drop_eq_getElem_cons hi];rfl
theorem tY (G:Gl) (hG:au G) (l:List Od) (s:aE) (H:List ax) (hl:l.length<1099511627776):
 af Tryz.prog G 77 [.list 3 (aK l),.str s] H (fun r H'=>H'=H∧r= .tuple [.agg (cN l s).cells,.bool (bH l s).isSome]):=by
 have bK:=bO
 refine af.aD TB [] aA _ Tryz.func77 rfl (by decide) Tryz.ntmps77 (by simp) rfl (by simp only[ap,Nat.reduceAdd];rfl) fun C R' hR hC hcl hB=>?_;have X:=aF;have hC':=congrArg List.length hC
 (refine run ?_;with_reducible repeat' first|exact trivial|(apply ad.mk<;>intro hb)|apply av.mk)
 refine az (fun i:Nat=>[(0,.list 3 (aK l)),(1,.str s),(4,.ptr H.length 0 0 0),(6,.int .i64 i)]) (fun i=>H++[.cells 0 3 [.agg [.str [],.int .i64 0,.list 1 []]]]) (fun i=>l.length - i) (fun i=>i≤l.length∧bH l s=bH (l.drop i) s) 0 ⟨Nat.zero_le _,rfl⟩ ?_ ?_
 ·exact aY (n0:=H.length) [(H.length,0)] hG hB hC' hcl
 rintro K i ⟨hi,hf⟩ hK
 rcases Nat.lt_or_ge i l.length with hlt|hge
 ·have hoi:l[i]? =some l[i]:=List.getElem?_eq_getElem hlt
  rw[vd hlt] at hf
  generalize l[i]=c at*
  obtain⟨nm,ar,ns⟩:=c
  simp only at hf
  by_cases hs:nm=s
  ·rw[if_pos hs.symm] at hf
   have X:=And.intro aF (And.intro hoi hs)
   clear hK
   (refine run ?_;with_reducible repeat' first|exact trivial|(apply ad.mk<;>intro hb)|apply av.mk)
   refine aS (n0:=H.length) hR hC' hcl (.same _ (by simp only[bq,SV.under,SV.aB,eF,Bool.and_self])) ⟨rfl,?_⟩
   rw[cN,hf,← hs];rfl
  ·rw[if_neg (fun e=>hs e.symm)] at hf
   have X:=And.intro aF (And.intro hoi hs)
   (refine run ?_;with_reducible repeat' first|exact trivial|(apply ad.mk<;>intro hb)|apply av.mk)
   refine hK _ _ (i+1) (by omega) ⟨by omega,hf⟩ ?_
   exact aY (n0:=H.length) [(H.length,0)] hG hB hC' hcl
 have hni:¬ (i:Int)<(l.length:Int):=by omega
 clear hK
 rw[List.drop_eq_nil_of_le hge,bH] at hf
 have X:=And.intro aF hni
 (refine run ?_;with_reducible repeat' first|exact trivial|(apply ad.mk<;>intro hb)|apply av.mk)
 refine aS (n0:=H.length) hR hC' hcl (.same _ rfl) ⟨rfl,?_⟩
 rw[cN,hf];rfl
def Ln (G:Gl) (m:Nat):Prop:=∀ (e:Ex) (H:List ax),e.wt≤m→af Tryz.prog G 75 [e.sv] H (fun r H'=>H'=H∧r= .bool (lE m e))
theorem rY (G:Gl) (hG:au G):∀ m,m<4294967296→Ln G m
 |0,_,e,_,h=>absurd e.b9 (by omega)
 |m+1,hm2,.mk kd nm nn op names ae binds alts,H,hm=>by
  have hrec:=rY G hG m (by omega)
  have hle:=Ex.cm kd nm nn op names ae binds alts
  have es:lE (m+1) (.mk kd nm nn op names ae binds alts)=if kd=2∨kd=1 then true else if kd=8 then mf op&&!(ae.any fun s=>!lE m s) else false:=rfl
  rw[es]
  have hpw:∀ x∈ae,x.wt≤m:=fun x hx=>by have:=Ex.bT (e:= .mk kd nm nn op names ae binds alts) (p:=x) (by rw[Ex.bM];exact List.mem_append_left _ hx);omega
  refine af.aD TB [] aA _ Tryz.func75 rfl (by decide) Tryz.ntmps75 (by simp) rfl (by simp only[ap,Nat.reduceAdd];rfl) fun C R' hR hC hcl hB=>?_;have X:=aF;have hC':=congrArg List.length hC
  by_cases h12:kd=2∨kd=1
  ·rw[if_pos h12] at hR
   rcases h12 with rfl|rfl
   ·(refine run ?_;with_reducible repeat' first|exact trivial|(apply ad.mk<;>intro hb)|apply av.mk)
    exact aS (n0:=H.length) hR hC' hcl (.same _ rfl) ⟨rfl,rfl⟩
   ·(refine run ?_;with_reducible repeat' first|exact trivial|(apply ad.mk<;>intro hb)|apply av.mk)
    exact aS (n0:=H.length) hR hC' hcl (.same _ rfl) ⟨rfl,rfl⟩
  rw[if_neg h12] at hR
  have h2:¬ kd=2:=fun h=>h12 (.inl h)
  have h1:¬ kd=1:=fun h=>h12 (.inr h)
  by_cases h8:kd=8
  rotate_left
  ·rw[if_neg h8] at hR
   have X:=And.intro aF (And.intro h2 (And.intro h1 h8))
   (refine run ?_;with_reducible repeat' first|exact trivial|(apply ad.mk<;>intro hb)|apply av.mk)
   exact aS (n0:=H.length) hR hC' hcl (.same _ rfl) ⟨rfl,rfl⟩
  subst h8
  rw[if_pos rfl] at hR
  by_cases hc:mf op=true
  rotate_left
  ·have hc:mf op=false:=Bool.eq_false_iff.2 hc
   rw[hc,Bool.false_and] at hR
   have hc2:(decide (op=4)||decide (op=5)||decide (op<1)||decide (8<op))=true:=by
    unfold mf at hc
    simp only[Bool.and_eq_false_iff,decide_eq_false_iff_not,Bool.or_eq_true,decide_eq_true_eq] at hc ⊢
    omega
   have X:=And.intro aF hc2
   (refine run ?_;with_reducible repeat' first|exact trivial|(apply ad.mk<;>intro hb)|apply av.mk)
   ·exact aS (n0:=H.length) hR hC' hcl (.same _ rfl) ⟨rfl,rfl⟩
   ·rw[show decide False=false from rfl,Bool.false_or,hc2] at hb
    cases hb
  have hco:1≤op∧op≤8∧¬ op=4∧¬ op=5:=by
   unfold mf at hc
   simp only[Bool.and_eq_true,decide_eq_true_eq] at hc
   exact⟨hc.1.1.1,hc.1.1.2,hc.1.2,hc.2⟩
  rw[hc,Bool.true_and] at hR
  obtain⟨o1,o2,o4,o5⟩:=hco
  have o1:¬ op<1:=by omega
  have o2:¬ 8<op:=by omega
  have X:=And.intro aF (And.intro o1 (And.intro o2 (And.intro o4 o5)))
  (refine run ?_;with_reducible repeat' first|exact trivial|(apply ad.mk<;>intro hb)|apply av.mk)
  refine az (fun i:Nat=>[(1,.ptr H.length 0 0 0),(3,.int .i64 i)]) (fun i=>H++[.cells 0 8 [.agg [.int .i64 8,.str nm,.int .i64 nn,.int .i64 op,.list 1 (names.map .str),.list 8 (ag ae),.list 9 (ah binds),.list 12 (aw alts)]]]) (fun i=>ae.length - i) (fun i=>i≤ae.length∧(ae.take i).any (fun s=>!lE m s)=false) 0 ⟨Nat.zero_le _,rfl⟩ ?_ ?_
  ·exact aY (n0:=H.length) [(H.length,0)] hG hB hC' hcl
  rintro K i ⟨hi,hall⟩ hK
  rcases Nat.lt_or_ge i ae.length with hlt|hge
  ·have hg:(ag ae)[i]? =some (.agg ae[i].cells):=by rw[bh];simp[hlt];rfl
   have hmem:=List.getElem_mem hlt
   have c1:=fun H=>hrec ae[i] H (hpw _ hmem)
   have hst:lE m ae[i]=false→(ae.any fun s=>!lE m s)=true:=fun h=>List.any_eq_true.2 ⟨_,hmem,by simp[h]⟩
   have hgo:lE m ae[i]=true→((ae.take (i+1)).any fun s=>!lE m s)=false:=fun h=>by
    rw[List.take_succ_eq_append_getElem hlt,List.any_append,hall];simp[h]
   generalize lE m ae[i]=z at*
   generalize ae[i]=x at*
   have X:=And.intro aF hg
   cases z
   ·rw[hst rfl,Bool.not_true] at hR
    clear hK
    (refine run ?_;with_reducible repeat' first|exact trivial|(apply ad.mk<;>intro hb)|apply av.mk)
    exact aS (n0:=H.length) hR hC' hcl (.same _ rfl) ⟨rfl,rfl⟩
   ·(refine run ?_;with_reducible repeat' first|exact trivial|(apply ad.mk<;>intro hb)|apply av.mk)
    refine hK _ _ (i+1) (by omega) ⟨by omega,hgo rfl⟩ ?_
    exact aY (n0:=H.length) [(H.length,0)] hG hB hC' hcl
  have hni:¬ (i:Int)<(ae.length:Int):=by omega
  clear hK
  rw[List.take_of_length_le hge] at hall
  rw[hall,Bool.not_false] at hR
  have X:=And.intro aF hni
  (refine run ?_;with_reducible repeat' first|exact trivial|(apply ad.mk<;>intro hb)|apply av.mk)
  exact aS (n0:=H.length) hR hC' hcl (.same _ rfl) ⟨rfl,rfl⟩
theorem yf (G:Gl) (hG:au G) (l names:List aE) (k id g:Nat) (hk:k=names.length) (hl:l.length<1099511627776) (hn:names.length<1099511627776) (H:List ax) (hid:H[id]? =some (.cells g 1 (names.map .str))):
 af Tryz.prog G 79 [.list 1 (l.map .str),.sl id g 0 k] H (fun r H'=>H'=H∧r= .list 1 ((l.filter fun n=>!decide (n∈names)).map .str)):=by
 subst hk
 have lid:=(List.getElem?_eq_some_iff.1 hid).1
 have hix:=fun L=>(show(H++L)[id]? =some (.cells g 1 (names.map .str)) by rw[cA lid];exact hid)
 have hfl:=fun i=>List.length_filter_le (fun n:aE=>!decide (n∈names)) (l.take i)
 have hpx:∀ x:aE,(fun n:aE=>!decide (n∈names)) x=!decide (x∈names):=fun x=>rfl
 generalize (fun n:aE=>!decide (n∈names))=p at*
 refine af.aD TB [5] aA _ Tryz.func79 rfl (by decide) Tryz.ntmps79 (by simp) rfl (by simp only[ap,Nat.reduceAdd];rfl) fun C R' hR hC hcl hB=>?_;have X:=aF;have hC':=congrArg List.length hC
 have X:=And.intro X hix
 (refine run ?_;with_reducible repeat' first|exact trivial|(apply ad.mk<;>intro hb)|apply av.mk)
 refine az (fun i:Nat=>[(0,.list 1 (l.map .str)),(1,.sl id g 0 names.length),(5,.sl H.length 0 0 ((l.take i).filter p).length),(6,.int .i64 i)]) (fun i=>H++[.cells 0 1 (((l.take i).filter p).map .str)]) (fun i=>l.length - i) (fun i=>i≤l.length) 0 (Nat.zero_le _) ?_ ?_
 ·simp only[List.take_zero,List.filter_nil,List.map_nil,List.length_nil]
  exact aY (n0:=H.length) [(H.length,0)] hG hB hC' hcl
 rintro K i hi hK
 rcases Nat.lt_or_ge i l.length with hlt|hge
 ·have hg:(l.map SV.str)[i]? =some (.str l[i]):=by simp[hlt]
  have hjl:=hfl i
  rw[List.length_take] at hjl
  have hft:(l.take (i+1)).filter p=(l.take i).filter p++if p l[i] then [l[i]] else []:=by rw[List.take_succ_eq_append_getElem hlt,kS]
  generalize l[i]=x at*
  have hhs:=fun L=>Dn G names x (H++L) id g (hix L) (by omega)
  generalize (l.take i).filter p=J at*
  have hJm:(J.map SV.str).length=J.length:=List.length_map ..
  have X:=And.intro aF (And.intro hg hJm)
  (refine run ?_;with_reducible repeat' first|exact trivial|(apply ad.mk<;>intro hb)|apply av.mk)
  refine bt (hhs _) ?_
  rintro r H' ⟨rfl,rfl⟩
  by_cases hx:x∈names
  ·rw[hpx,decide_eq_true hx,Bool.not_true,if_neg Bool.false_ne_true,List.append_nil] at hft
   rw[decide_eq_true hx]
   have X:=And.intro aF (And.intro hg hJm)
   (refine run ?_;with_reducible repeat' first|exact trivial|(apply ad.mk<;>intro hb)|apply av.mk)
   refine hK _ _ (i+1) (by omega) (by omega) ?_
   rw[hft]
   exact aY (n0:=H.length) [(H.length,0)] hG hB hC' hcl
  ·rw[hpx,decide_eq_false hx,Bool.not_false,if_pos rfl] at hft
   rw[decide_eq_false hx]
   have X:=And.intro aF (And.intro hg hJm)
   (refine run ?_;with_reducible repeat' first|exact trivial|(apply ad.mk<;>intro hb)|apply av.mk)
   refine hK _ _ (i+1) (by omega) (by omega) ?_
   rw[hft,List.map_append,List.map_cons,List.map_nil,List.length_append,List.length_cons,List.length_nil]
   exact aY (n0:=H.length) [(H.length,0)] hG hB hC' hcl
 clear hK
 have hni:¬ (i:Int)<(l.length:Int):=by omega
 rw[List.take_of_length_le hge]
 have X:=And.intro aF hni
 (refine run ?_;with_reducible repeat' first|exact trivial|(apply ad.mk<;>intro hb)|apply av.mk)
 exact aS (n0:=H.length) hR hC' hcl (bE.sf (by rw[cS];rfl) (by omega) (by simp) (by rw[List.drop_zero,List.take_of_length_le (by simp)]) (bp _ _)) ⟨rfl,rfl⟩
theorem xl {l:List Od} {B:Nat} (h:∀ o∈l,o.bN.length<B) (h0:0<B) (s:aE):(cN l s).bN.length<B:=AA h h0 s
theorem Bu {l:List aE} (h:l.Nodup):cn [] l=l:=by
 have main:∀ (r a:List aE),(a++r).Nodup→cn a r=a++r:=by
  intro r
  induction r with
  |nil=>intro a _;rw[List.append_nil];rfl
  |cons x t ih=>
   intro a h
   have hx:x∉a:=fun hm=>by
    rw[List.nodup_append] at h
    exact h.2.2 x hm x (List.mem_cons_self ..) rfl
   show cn (fz a x) t=_
   rw[fz,if_neg hx,ih (a++[x]) (by rw[List.append_assoc];exact h),List.append_assoc];rfl
 exact main l [] h
theorem wm (l:List Od) (s:Ex) (r:List Ex) (kd:Int) (nm:aE) (nn op:Int) (names:List aE) (B:List Bd) (A:List Al):
 cu (bc [] l) (.mk kd nm nn op names (s::r) B A)=if s.kind≠1 then (oK,false) else (cN l s.name,(bH l s.name).isSome&&decide ((cN l s.name).arity<((s::r).length:Int))):=by
 have h:∀ t,bH (bc [] l) t=bH l t:=fun t=>by rw[qO];rfl
 rw[yK h];rfl
theorem Ei (f:Ex→List aE) (sim:Ex→Bool) (a b:Ex) (h:(f a).Nodup):fc f sim [] [a,b]=if sim a then cn (f a) (f b) else f a:=by
 rw[fc,Bu h,fc]
 by_cases h1:sim a=true
 ·rw[if_pos h1,if_pos h1,fc];split<;>rfl
 ·rw[if_neg h1,if_neg h1]
def Nr (G:Gl) (l:List Od) (m:Nat):Prop:=∀ (e:Ex) (H:List ax),e.wt≤m→e.wt<4294967296→
 af Tryz.prog G 31 [e.sv,.list 3 (aK l)] H (fun r H'=>H'=H∧r= .list 1 ((aZ aU (bc [] l) m e).map .str))
theorem oP (G:Gl) (hG:au G) (l:List Od) (hl:l.length<1099511627776) (hln:∀ o∈l,o.bN.length<4294967296):∀ m,Nr G l m
 |0,e,_,h,_=>absurd e.b9 (by omega)
 |m+1,e,H,hm,hw0=>by
  have hrec:=oP G hG l hl hln m
  have hnd:=gB aU (bc [] l) m
  have hlen:=fq aU (bc [] l) m
  have gb:=bO
  obtain⟨kd,nm,nn,op,names,ae,binds,alts⟩:=e
  have hle:=Ex.cm kd nm nn op names ae binds alts
  have hpw:∀ p∈(Ex.mk kd nm nn op names ae binds alts).parts,p.wt≤m∧p.wt<4294967296:=fun p hp=>by have:=Ex.bT hp;exact⟨by omega,by omega⟩
  rw[Ex.bM] at hpw
  have hunf:aZ aU (bc [] l) (m+1) (.mk kd nm nn op names ae binds alts)=if kd=1 then [nm] else
   match ae with
   |[]=>[]
   |s::r=>
    if kd=8 then (if 0<r.length∧1≤op∧op≤8 then fc (aZ aU (bc [] l) m) aU [] (ae.take 2) else aZ aU (bc [] l) m s)
    else if kd=4 then (if (cu (bc [] l) (.mk kd nm nn op names ae binds alts)).2 then fc (aZ aU (bc [] l) m) aU [] (fg ae (cu (bc [] l) (.mk kd nm nn op names ae binds alts)).1.bN) else aZ aU (bc [] l) m s)
    else if kd=5 then cp (aZ aU (bc [] l) m s) (binds.map Bd.name)
    else if kd=6 then qp (aZ aU (bc [] l) m) aU nm s alts
    else []:=by cases ae<;>rfl
  rw[hunf]
  clear hunf
  have hsm:∀ (x:Ex),x.wt<4294967296→∀ H,af Tryz.prog G 75 [x.sv] H (fun r H'=>H'=H∧r= .bool (aU x)):=fun x hx H=>rY G hG x.wt hx x H (Nat.le_refl _)
  by_cases h1:kd=1
  ·subst h1
   rw[if_pos rfl]
   refine af.aD TB [] aA _ Tryz.func31 rfl (by decide) Tryz.ntmps31 (by simp) rfl (by simp only[ap,Nat.reduceAdd];rfl) fun C R' hR hC hcl hB=>?_;have X:=aF;have hC':=congrArg List.length hC
   (refine run ?_;with_reducible repeat' first|exact trivial|(apply ad.mk<;>intro hb)|apply av.mk)
   exact aS (n0:=H.length) hR hC' hcl (.same _ rfl) ⟨rfl,rfl⟩
  rw[if_neg h1]
  cases ae with
  |nil=>
   simp only
   refine af.aD TB [] aA _ Tryz.func31 rfl (by decide) Tryz.ntmps31 (by simp) rfl (by simp only[ap,Nat.reduceAdd];rfl) fun C R' hR hC hcl hB=>?_;have X:=aF;have hC':=congrArg List.length hC
   by_cases h8:kd=8
   ·subst h8
    (refine run ?_;with_reducible repeat' first|exact trivial|(apply ad.mk<;>intro hb)|apply av.mk)
    exact aS (n0:=H.length) hR hC' hcl (.nil _) ⟨rfl,rfl⟩
   by_cases h4:kd=4
   ·subst h4
    (refine run ?_;with_reducible repeat' first|exact trivial|(apply ad.mk<;>intro hb)|apply av.mk)
    exact aS (n0:=H.length) hR hC' hcl (.nil _) ⟨rfl,rfl⟩
   by_cases h5:kd=5
   ·subst h5
    (refine run ?_;with_reducible repeat' first|exact trivial|(apply ad.mk<;>intro hb)|apply av.mk)
    exact aS (n0:=H.length) hR hC' hcl (.nil _) ⟨rfl,rfl⟩
   by_cases h6:kd=6
   ·subst h6
    (refine run ?_;with_reducible repeat' first|exact trivial|(apply ad.mk<;>intro hb)|apply av.mk)
    exact aS (n0:=H.length) hR hC' hcl (.nil _) ⟨rfl,rfl⟩
   have X:=And.intro aF (And.intro h1 (And.intro h8 (And.intro h4 (And.intro h5 h6))))
   (refine run ?_;with_reducible repeat' first|exact trivial|(apply ad.mk<;>intro hb)|apply av.mk)
   exact aS (n0:=H.length) hR hC' hcl (.nil _) ⟨rfl,rfl⟩
  |cons s rs=>
   simp only
   have hs:=hpw s (by simp)
   have hs0:(s::rs)[0]? =some s:=rfl
   have hsl:(s::rs).length=rs.length+1:=rfl
   have hfs:=fun H=>hrec s H hs.1 hs.2
   have hns:=hnd s
   have hls:=hlen s
   have hss:=hsm s hs.2
   have hcall:=wm l s rs kd nm nn op names binds alts
   by_cases h8:kd=8
   ·subst h8
    rw[if_pos rfl]
    have c1:=hfs
    by_cases hc:0<rs.length∧1≤op∧op≤8
    ·rw[if_pos hc]
     obtain⟨hc0,hc1,hc2⟩:=hc
     cases rs with
     |nil=>exact absurd hc0 (by simp)
     |cons s1 rt=>
      have hs1:=hpw s1 (by simp)
      have hrow:fc (aZ aU (bc [] l) m) aU [] (List.take 2 (s::s1::rt))=_:=Ei _ _ s s1 hns
      rw[hrow]
      have hlen1:=hlen s1
      have c2:=fun H=>hrec s1 H hs1.1 hs1.2
      have c3:=hss
      have hs1g:(s::s1::rt)[1]? =some s1:=rfl
      have hl2:(1:Int)<((s::s1::rt).length:Int):=by simp only[List.length_cons];omega
      clear hrow hcall hfs hss
      generalize s::s1::rt=S at*
      generalize aZ aU (bc [] l) m s=F at*
      generalize aZ aU (bc [] l) m s1=F1 at*
      have c4:=fun H=>vz G hG F F1 (by omega) H
      cases hsim:aU s
      ·rw[hsim] at c3
       rw[if_neg Bool.false_ne_true]
       refine af.aD TB [] aA _ Tryz.func31 rfl (by decide) Tryz.ntmps31 (by simp) rfl (by simp only[ap,Nat.reduceAdd];rfl) fun C R' hR hC hcl hB=>?_;have X:=aF;have hC':=congrArg List.length hC
       have X:=And.intro aF (And.intro hs0 (And.intro hs1g (And.intro hl2 (And.intro hc1 hc2))))
       (refine run ?_;with_reducible repeat' first|exact trivial|(apply ad.mk<;>intro hb)|apply av.mk)
       exact aS (n0:=H.length) hR hC' hcl (.same _ (bp _ _)) ⟨rfl,rfl⟩
      ·rw[hsim] at c3
       rw[if_pos rfl]
       refine af.aD TB [] aA _ Tryz.func31 rfl (by decide) Tryz.ntmps31 (by simp) rfl (by simp only[ap,Nat.reduceAdd];rfl) fun C R' hR hC hcl hB=>?_;have X:=aF;have hC':=congrArg List.length hC
       have X:=And.intro aF (And.intro hs0 (And.intro hs1g (And.intro hl2 (And.intro hc1 hc2))))
       (refine run ?_;with_reducible repeat' first|exact trivial|(apply ad.mk<;>intro hb)|apply av.mk)
       exact aS (n0:=H.length) hR hC' hcl (.same _ (bp _ _)) ⟨rfl,rfl⟩
    ·rw[if_neg hc]
     have hcf:(decide ((1:Int)<((s::rs).length:Int))&&decide (1≤op)&&decide (op≤8))=false:=by
      rw[Bool.eq_false_iff]
      intro h
      simp only[Bool.and_eq_true,decide_eq_true_eq] at h
      exact hc ⟨by have:=h.1.1;simp only[List.length_cons] at this;omega,h.1.2,h.2⟩
     clear hcall hss
     generalize s::rs=S at*
     generalize aZ aU (bc [] l) m s=F at*
     refine af.aD TB [] aA _ Tryz.func31 rfl (by decide) Tryz.ntmps31 (by simp) rfl (by simp only[ap,Nat.reduceAdd];rfl) fun C R' hR hC hcl hB=>?_;have X:=aF;have hC':=congrArg List.length hC
     have X:=And.intro aF (And.intro hs0 hcf)
     (refine run ?_;with_reducible repeat' first|exact trivial|(apply ad.mk<;>intro hb)|apply av.mk)
     exact aS (n0:=H.length) hR hC' hcl (.same _ (bp _ _)) ⟨rfl,rfl⟩
   rw[if_neg h8]
   by_cases h4:kd=4
   ·subst h4
    rw[if_pos rfl]
    have c1:=hfs
    have c2:=fun H=>tY G hG l s.name H hl
    have hgn:(cN l s.name).bN.length<4294967296:=xl hln (by decide) s.name
    obtain⟨k2,n2,nn2,op2,ns2,ss2,bs2,as2⟩:=s
    rw[hcall]
    clear hcall hss
    rw[show(Ex.mk k2 n2 nn2 op2 ns2 ss2 bs2 as2).kind=k2 from rfl,show(Ex.mk k2 n2 nn2 op2 ns2 ss2 bs2 as2).name=n2 from rfl] at*
    generalize hFs:aZ aU (bc [] l) m (.mk k2 n2 nn2 op2 ns2 ss2 bs2 as2)=Fs at*
    have hvl:=pY (m+1) (.mk 4 nm nn op names (.mk k2 n2 nn2 op2 ns2 ss2 bs2 as2::rs) binds alts)
    have hvp:∀ x∈(Ex.mk k2 n2 nn2 op2 ns2 ss2 bs2 as2::rs),∀ t∈aZ aU (bc [] l) m x,t∈mR (m+1) (.mk 4 nm nn op names (.mk k2 n2 nn2 op2 ns2 ss2 bs2 as2::rs) binds alts):=fun x hx t ht=>
     sJ (e:= .mk 4 nm nn op names (.mk k2 n2 nn2 op2 ns2 ss2 bs2 as2::rs) binds alts) (p:=x) (by rw[Ex.bM];exact List.mem_append_left _ hx) (pO aU (bc [] l) t m x ht)
    have hpwS:∀ x∈(Ex.mk k2 n2 nn2 op2 ns2 ss2 bs2 as2::rs),x.wt≤m∧x.wt<4294967296:=fun x hx=>hpw x (List.mem_append_left _ hx)
    generalize mR (m+1) (.mk 4 nm nn op names (.mk k2 n2 nn2 op2 ns2 ss2 bs2 as2::rs) binds alts)=V at*
    generalize hgo:cN l n2=od at*
    obtain⟨on,oa,ns⟩:=od
    generalize (bH l n2).isSome=is at*
    have hoc:(Od.mk on oa ns).cells=[.str on,.int .i64 oa,.list 1 (cc ns)]:=rfl
    rw[hoc] at c2
    simp only at hgn
    have hnu:=fun n=>eF n ns
    generalize hS:Ex.mk k2 n2 nn2 op2 ns2 ss2 bs2 as2::rs=S at*
    have hs0:S[0]? =some (.mk k2 n2 nn2 op2 ns2 ss2 bs2 as2):=hs0
    have hSl:¬ (S.length:Int)=0:=by omega
    by_cases hk:k2=1
    rotate_left
    ·rw[if_pos hk,if_neg Bool.false_ne_true]
     refine af.aD TB [] aA _ Tryz.func31 rfl (by decide) Tryz.ntmps31 (by simp) rfl (by simp only[ap,Nat.reduceAdd];rfl) fun C R' hR hC hcl hB=>?_;have X:=aF;have hC':=congrArg List.length hC
     have X:=And.intro aF (And.intro hs0 (And.intro hk hSl))
     (refine run ?_;with_reducible repeat' first|exact trivial|(apply ad.mk<;>intro hb)|apply av.mk)
     exact aS (n0:=H.length) hR hC' hcl (.same _ (bp _ _)) ⟨rfl,rfl⟩
    rw[if_neg (show ¬ k2≠1 from fun h=>h hk)]
    subst hk
    simp only
    cases is
    ·rw[Bool.false_and,if_neg Bool.false_ne_true]
     refine af.aD TB [] aA _ Tryz.func31 rfl (by decide) Tryz.ntmps31 (by simp) rfl (by simp only[ap,Nat.reduceAdd];rfl) fun C R' hR hC hcl hB=>?_;have X:=aF;have hC':=congrArg List.length hC
     have X:=And.intro aF (And.intro hs0 hSl)
     (refine run ?_;with_reducible repeat' first|exact trivial|(apply ad.mk<;>intro hb)|apply av.mk)
     exact aS (n0:=H.length) hR hC' hcl (.same _ (bp _ _)) ⟨rfl,rfl⟩
    rw[Bool.true_and]
    by_cases ha:oa<(S.length:Int)
    rotate_left
    ·rw[decide_eq_false ha,if_neg Bool.false_ne_true]
     have ha2:(S.length:Int) - 1<oa:=by omega
     refine af.aD TB [] aA _ Tryz.func31 rfl (by decide) Tryz.ntmps31 (by simp) rfl (by simp only[ap,Nat.reduceAdd];rfl) fun C R' hR hC hcl hB=>?_;have X:=aF;have hC':=congrArg List.length hC
     have X:=And.intro aF (And.intro hs0 (And.intro hSl ha2))
     (refine run ?_;with_reducible repeat' first|exact trivial|(apply ad.mk<;>intro hb)|apply av.mk)
     exact aS (n0:=H.length) hR hC' hcl (.same _ (bp _ _)) ⟨rfl,rfl⟩
    rw[decide_eq_true ha,if_pos rfl]
    have ha2:¬ (S.length:Int) - 1<oa:=by omega
    clear c1 hfs hs0
    refine af.aD TB [] aA _ Tryz.func31 rfl (by decide) Tryz.ntmps31 (by simp) rfl (by simp only[ap,Nat.reduceAdd];rfl) fun C R' hR hC hcl hB=>?_;have X:=aF;have hC':=congrArg List.length hC
    have hs0:S[0]? =some (.mk 1 n2 nn2 op2 ns2 ss2 bs2 as2):=by rw[← hS];rfl
    have X:=And.intro aF (And.intro hs0 (And.intro hSl ha2))
    (refine run ?_;with_reducible repeat' first|exact trivial|(apply ad.mk<;>intro hb)|apply av.mk)
    refine az (fun a:Nat×List aE=>[(1,.list 3 (aK l)),(2,.ptr H.length 0 0 0),(6,.ptr (H.length+1) 0 0 0),(8,.list 1 (a.2.map .str)),(9,.int .i64 (a.1:Int))]) (fun a=>H++[.cells 0 8 [.agg [.int .i64 4,.str nm,.int .i64 nn,.int .i64 op,.list 1 (names.map .str),.list 8 (ag S),.list 9 (ah binds),.list 12 (aw alts)]],.cells 0 3 [.agg [.str on,.int .i64 oa,.list 1 (cc ns)]]]) (fun a=>ns.length - a.1)
     (fun a=>(a.1≤ns.length∧a.2.Nodup∧∀ t∈a.2,t∈V)∧fc (aZ aU (bc [] l) m) aU [] (fg S ns)=fc (aZ aU (bc [] l) m) aU a.2 (fg S (ns.drop a.1))) (0,[]) ⟨⟨Nat.zero_le _,List.nodup_nil,fun t h=>by cases h⟩,rfl⟩ ?_ ?_
    ·exact aY (n0:=H.length) [(H.length,0),(H.length+1,0)] hG hB hC' hcl
    rintro K ⟨i,out⟩ ⟨⟨hi,hon,hov⟩,hrow⟩ hK
    simp only at hi hon hov hrow
    dsimp only
    have hol:=nJ out V hon hov
    rcases Nat.lt_or_ge i ns.length with hlt|hge
    ·have gk:(cc ns)[i]? =some (.int .i64 ns[i]):=by simp[cc,hlt]
     rw[List.drop_eq_getElem_cons hlt,fg] at hrow
     generalize ns[i]=n at*
     by_cases hrg:n<0∨(S.length:Int) - 1≤n
     ·rw[if_pos hrg,fc] at hrow
      rw[hrow] at hR
      have hrb:(decide (n<0)||decide ((S.length:Int) - 1≤n))=true:=by
       simp only[Bool.or_eq_true,decide_eq_true_eq];exact hrg
      clear hK
      have X:=And.intro aF (And.intro gk hrb)
      (refine run ?_;with_reducible repeat' first|exact trivial|(apply ad.mk<;>intro hb)|apply av.mk)
      all_goals first
       |exact aS (n0:=H.length) hR hC' hcl (.same _ (bp _ _)) ⟨rfl,rfl⟩
       |exact absurd hb (by simp)
     rw[if_neg hrg,fc] at hrow
     have hn0:¬ n<0:=fun h=>hrg (.inl h)
     have hn1:¬ (S.length:Int) - 1≤n:=fun h=>hrg (.inr h)
     have hidx:(n+1).toNat=n.toNat+1:=by omega
     have hlt2:n.toNat+1<S.length:=by omega
     have hgd:S.getD (n.toNat+1) iO=S[n.toNat+1]:=by rw[List.getD_eq_getElem?_getD,List.getElem?_eq_getElem hlt2];rfl
     rw[hgd] at hrow
     have hgx:S[n.toNat+1]? =some S[n.toNat+1]:=List.getElem?_eq_getElem hlt2
     have hxm:S[n.toNat+1]∈S:=List.getElem_mem hlt2
     have hxw:=hpwS _ hxm
     have hxv:=hvp _ hxm
     have hxl:=hlen S[n.toNat+1]
     have c1:=fun H=>hrec S[n.toNat+1] H hxw.1 hxw.2
     have c3:=hsm S[n.toNat+1] hxw.2
     have hb1:0≤n+1:=by omega
     have hb2:n+1<(S.length:Int):=by omega
     generalize S[n.toNat+1]=x at*
     have c4:=fun H=>vz G hG out (aZ aU (bc [] l) m x) (by omega) H
     have hjn:=fj (more:=aZ aU (bc [] l) m x) hon
     have hjv:∀ t∈cn out (aZ aU (bc [] l) m x),t∈V:=fun t ht=>(gD.1 ht).elim (hov t) (hxv t)
     generalize aZ aU (bc [] l) m x=Fx at*
     cases hsim:aU x
     ·rw[hsim,if_neg Bool.false_ne_true] at hrow
      rw[hrow] at hR
      rw[hsim] at c3
      clear hK
      have X:=And.intro aF (And.intro gk (And.intro hn0 (And.intro hn1 (And.intro hidx (And.intro hgx (And.intro hb1 hb2))))))
      (refine run ?_;with_reducible repeat' first|exact trivial|(apply ad.mk<;>intro hb)|apply av.mk)
      exact aS (n0:=H.length) hR hC' hcl (.same _ (bp _ _)) ⟨rfl,rfl⟩
     ·rw[hsim,if_pos rfl] at hrow
      rw[hsim] at c3
      have X:=And.intro aF (And.intro gk (And.intro hn0 (And.intro hn1 (And.intro hidx (And.intro hgx (And.intro hb1 hb2))))))
      (refine run ?_;with_reducible repeat' first|exact trivial|(apply ad.mk<;>intro hb)|apply av.mk)
      refine hK _ _ (i+1,cn out Fx) (by simp only;omega) ⟨⟨by simp only;omega,hjn,hjv⟩,hrow⟩ ?_
      dsimp only
      exact aY (n0:=H.length) [(H.length,0),(H.length+1,0)] hG hB hC' hcl
    ·rw[List.drop_eq_nil_of_le hge,fg,fc] at hrow
     rw[hrow] at hR
     have hni:¬ (i:Int)<(ns.length:Int):=by omega
     clear hK
     have X:=And.intro aF hni
     (refine run ?_;with_reducible repeat' first|exact trivial|(apply ad.mk<;>intro hb)|apply av.mk)
     exact aS (n0:=H.length) hR hC' hcl (.same _ (bp _ _)) ⟨rfl,rfl⟩
   rw[if_neg h4]
   by_cases h5:kd=5
   ·subst h5
    rw[if_pos rfl]
    have c1:=hfs
    clear hcall hss
    have c2:=fun H=>ye G hG (aZ aU (bc [] l) m s) (binds.map Bd.name) (by omega) (by rw[List.length_map];omega) H
    generalize s::rs=S at*
    have hSl:¬ (S.length:Int)=0:=by omega
    generalize aZ aU (bc [] l) m s=F at*
    refine af.aD TB [11] aA _ Tryz.func31 rfl (by decide) Tryz.ntmps31 (by simp) rfl (by simp only[ap,Nat.reduceAdd];rfl) fun C R' hR hC hcl hB=>?_;have X:=aF;have hC':=congrArg List.length hC
    have X:=And.intro aF hSl
    (refine run ?_;with_reducible repeat' first|exact trivial|(apply ad.mk<;>intro hb)|apply av.mk)
    refine az (fun i:Nat=>[(1,.list 3 (aK l)),(2,.ptr H.length 0 0 0),(11,.sl (H.length+1) 0 0 i),(12,.int .i64 i)]) (fun i=>H++[.cells 0 8 [.agg [.int .i64 5,.str nm,.int .i64 nn,.int .i64 op,.list 1 (names.map .str),.list 8 (ag S),.list 9 (ah binds),.list 12 (aw alts)]],.cells 0 1 ((binds.take i).map fun b=> .str b.name)]) (fun i=>binds.length - i) (fun i=>i≤binds.length) 0 (Nat.zero_le _) ?_ ?_
    ·exact aY (n0:=H.length) [(H.length,0),(H.length+1,0)] hG hB hC' hcl
    rintro K i hi hK
    rcases Nat.lt_or_ge i binds.length with hlt|hge
    ·have hg:(ah binds)[i]? =some (.agg (.str binds[i].name::binds[i].e.cells)):=by rw[aV,List.getElem?_map,List.getElem?_eq_getElem hlt,Option.map_some,Bd.sv,Bd.cM]
     have htl:((binds.take i).map fun b:Bd=>SV.str b.name).length=i:=by rw[List.length_map,List.length_take];omega
     have hts:(binds.take i).map (fun b:Bd=>SV.str b.name)++[.str binds[i].name]=(binds.take (i+1)).map fun b:Bd=>SV.str b.name:=by rw[List.take_succ_eq_append_getElem hlt,List.map_append,List.map_cons,List.map_nil]
     have X:=And.intro aF (And.intro hg (And.intro htl hts))
     (refine run ?_;with_reducible repeat' first|exact trivial|(apply ad.mk<;>intro hb)|apply av.mk)
     refine hK _ _ (i+1) (by omega) (by omega) ?_
     exact aY (n0:=H.length) [(H.length,0),(H.length+1,0)] hG hB hC' hcl
    obtain rfl:i=binds.length:=by omega
    clear hK
    have hnm:((binds.take binds.length).map fun b:Bd=>SV.str b.name)=(binds.map Bd.name).map .str:=by rw[List.take_length,List.map_map];rfl
    rw[hnm]
    have X:=And.intro aF (And.intro (Int.lt_irrefl (binds.length:Int)) hs0)
    (refine yd ?_;with_reducible repeat' first|exact trivial|(apply ad.mk<;>intro hb)|apply av.mk)
    refine Hy [(177,.list 1 (F.map .str)),(178,.list 1 ((binds.map Bd.name).map .str))] (H++[]) (aY (n0:=H.length) [] hG hB hC' hcl) ?_
    have X:=aF
    (refine run ?_;with_reducible repeat' first|exact trivial|(apply ad.mk<;>intro hb)|apply av.mk)
    exact aS (n0:=H.length) hR hC' hcl (.same _ (bp _ _)) ⟨rfl,rfl⟩
   rw[if_neg h5]
   by_cases h6:kd=6
   ·subst h6
    rw[if_pos rfl]
    have hpwA:∀ a∈alts,a.body.wt≤m∧a.body.wt<4294967296:=fun a ha=>hpw a.body (List.mem_append_right _ (List.mem_append_right _ (List.mem_map.2 ⟨_,ha,rfl⟩)))
    have hal:=fun i (h:i<alts.length)=>Al.hY (kd:=6) (nm:=nm) (nn:=nn) (op:=op) (names:=names) (ae:=s::rs) (binds:=binds) h
    have hcw:=fun i=>qu (f:=aZ aU (bc [] l) m) (nm:=nm) (out:=aZ aU (bc [] l) m s) (B:=4294967295) (alts.take i) (fun a ha=>by
     have h1:=hlen a.body
     have h2:=(hpwA a (List.mem_of_mem_take ha)).2
     omega)
    have c1:=hfs
    have c2:=hss
    have hch:qp (aZ aU (bc [] l) m) aU nm s alts=if aU s then cn (aZ aU (bc [] l) m s) (jQ (aZ aU (bc [] l) m) nm (aZ aU (bc [] l) m s) alts) else aZ aU (bc [] l) m s:=rfl
    rw[hch]
    clear hch hcall hss hfs
    generalize hSS:s::rs=S at*
    have hSl:¬ (S.length:Int)=0:=by omega
    generalize hFF:aZ aU (bc [] l) m s=F at*
    cases hsim:aU s
    ·rw[hsim] at c2
     rw[if_neg Bool.false_ne_true]
     refine af.aD TB [] aA _ Tryz.func31 rfl (by decide) Tryz.ntmps31 (by simp) rfl (by simp only[ap,Nat.reduceAdd];rfl) fun C R' hR hC hcl hB=>?_;have X:=aF;have hC':=congrArg List.length hC
     have X:=And.intro aF (And.intro hs0 hSl)
     (refine run ?_;with_reducible repeat' first|exact trivial|(apply ad.mk<;>intro hb)|apply av.mk)
     exact aS (n0:=H.length) hR hC' hcl (.same _ (bp _ _)) ⟨rfl,rfl⟩
    rw[hsim] at c2
    rw[if_pos rfl]
    clear hsim
    refine af.aD TB [217] aA _ Tryz.func31 rfl (by decide) Tryz.ntmps31 (by simp) rfl (by simp only[ap,Nat.reduceAdd];rfl) fun C R' hR hC hcl hB=>?_;have X:=aF;have hC':=congrArg List.length hC
    have X:=And.intro aF (And.intro hs0 hSl)
    (refine run ?_;with_reducible repeat' first|exact trivial|(apply ad.mk<;>intro hb)|apply av.mk)
    refine az (fun i:Nat=>[(1,.list 3 (aK l)),(2,.ptr H.length 0 0 0),(13,.list 1 (F.map .str)),(14,.list 1 ((jQ (aZ aU (bc [] l) m) nm F (alts.take i)).map .str)),(15,.int .i64 (i:Int))]) (fun i=>H++[.cells 0 8 [.agg [.int .i64 6,.str nm,.int .i64 nn,.int .i64 op,.list 1 (names.map .str),.list 8 (ag S),.list 9 (ah binds),.list 12 (aw alts)]]]) (fun i=>alts.length - i) (fun i=>i≤alts.length) 0 (Nat.zero_le _) ?_ ?_
    ·simp only[List.take_zero,show jQ (aZ aU (bc [] l) m) nm F []=[] from rfl,List.map_nil]
     exact aY (n0:=H.length) [(H.length,0)] hG hB hC' hcl
    rintro K i hi hK
    rcases Nat.lt_or_ge i alts.length with hlt|hge
    ·have hmem:=List.getElem_mem hlt
     have hg:(aw alts)[i]? =some (.agg (.int .i64 alts[i].kind:: .str alts[i].name:: .int .i64 alts[i].n:: .list 1 (alts[i].names.map .str)::alts[i].body.cells)):=by rw[bG,List.getElem?_map,List.getElem?_eq_getElem hlt,Option.map_some,Al.sv,Al.cM]
     have hts:=List.take_succ_eq_append_getElem hlt
     have hcs:=tf (aZ aU (bc [] l) m) nm F (alts.take i) alts[i]
     rw[← hts,List.length_take,Nat.min_eq_left (by omega)] at hcs
     have hpb:=hpwA alts[i] hmem
     have hnl:=hal i hlt
     have hlb:=hlen alts[i].body
     have hx8:=alts[i].body.bS
     have hAlt:pB (aZ aU (bc [] l) m) nm F alts[i]=cp ((aZ aU (bc [] l) m alts[i].body).filter fun n=>!decide (n∈nm::F)) alts[i].names:=by
      unfold pB
      congr 1
      refine congrArg (fun p=>List.filter p _) (funext fun n=>?_)
      congr 1
      rw[Bool.eq_iff_iff]
      simp only[Bool.or_eq_true,decide_eq_true_eq,List.mem_cons]
     have hci:=hcw i
     rw[hAlt] at hcs
     clear hAlt
     generalize alts[i]=a at*
     obtain⟨ak,an,ann,ans,ab⟩:=a
     simp only[Al.kind,Al.name,Al.n,Al.names,Al.body] at hg hcs hpb hnl hlb hx8
     have c3:=fun H=>hrec ab H hpb.1 hpb.2
     have hxd:List.drop 8 ab.cells=[]:=List.drop_eq_nil_of_le (by omega)
     generalize aZ aU (bc [] l) m ab=Fb at*
     generalize hcc:jQ (aZ aU (bc [] l) m) nm F (alts.take i)=c at*
     have hwo:=fun k g L h1 h2=>yf G hG Fb (nm::F) k (H.length+2) g h1 (by omega) (by simp only[List.length_cons];omega) (H++L) h2
     have hfl:(Fb.filter fun n=>!decide (n∈nm::F)).length≤Fb.length:=List.length_filter_le ..
     generalize hWo:(Fb.filter fun n=>!decide (n∈nm::F))=Wo at*
     have c4:=fun H=>ye G hG Wo ans (by omega) (by omega) H
     have hul:=mQ Wo ans
     generalize cp Wo ans=u at*
     have hFm:(F.map SV.str).length=F.length:=List.length_map ..
     have X:=And.intro aF (And.intro hg (And.intro hx8 hFm))
     (refine Gh ?_;with_reducible repeat' first|exact trivial|(apply ad.mk<;>intro hb)|apply av.mk)
     refine dQ (fun _:Unit=>[(1,.list 3 (aK l)),(2,.ptr H.length 0 0 0),(13,.list 1 (F.map .str)),(14,.list 1 (c.map .str)),(15,.int .i64 (i:Int)),(17,.list 1 (u.map .str))]) (fun _=>H++[.cells 0 8 [.agg [.int .i64 6,.str nm,.int .i64 nn,.int .i64 op,.list 1 (names.map .str),.list 8 (ag S),.list 9 (ah binds),.list 12 (aw alts)]]]) (fun _=>True) (fun K2 hK2=>?_) (fun _ _=>?_)
     ·(refine run ?_;with_reducible repeat' first|exact trivial|(apply ad.mk<;>intro hb)|apply av.mk)
      all_goals
       refine du (hwo (1+F.length) 1 _ (by simp only[List.length_cons];omega) (by rw[bZ];rfl)) ?_
       rintro r H' ⟨rfl,rfl⟩
       (refine run ?_;with_reducible repeat' first|exact trivial|(apply ad.mk<;>intro hb)|apply av.mk)
       refine hK2 _ _ () trivial ?_
       exact aY (n0:=H.length) [(H.length,0)] hG hB hC' hcl
     clear hg hx8 hxd hwo c3 c4
     rcases Nat.eq_zero_or_pos i with hi0|hi0
     ·subst hi0
      rw[if_pos rfl,rv] at hcs
      have X:=aF
      (refine run ?_;with_reducible repeat' first|exact trivial|(apply ad.mk<;>intro hb)|apply av.mk)
      refine hK _ _ 1 (by omega) (by omega) ?_
      rw[hcs]
      exact aY (n0:=H.length) [(H.length,0)] hG hB hC' hcl
     rw[if_neg (by omega)] at hcs
     have hi0:¬ (i:Int)=0:=by omega
     have X:=And.intro aF hi0
     (refine run ?_;with_reducible repeat' first|exact trivial|(apply ad.mk<;>intro hb)|apply av.mk)
     refine az (fun n:Nat=>[(1,.list 3 (aK l)),(2,.ptr H.length 0 0 0),(13,.list 1 (F.map .str)),(14,.list 1 (c.map .str)),(15,.int .i64 (i:Int)),(17,.list 1 (u.map .str)),(18,.int .i64 (n:Int))]) (fun _=>H++[.cells 0 8 [.agg [.int .i64 6,.str nm,.int .i64 nn,.int .i64 op,.list 1 (names.map .str),.list 8 (ag S),.list 9 (ah binds),.list 12 (aw alts)]]]) (fun n=>c.length - n) (fun n=>n≤c.length∧n≤u.length∧c.take n=u.take n) 0 ⟨Nat.zero_le _,Nat.zero_le _,rfl⟩ ?_ ?_
     ·exact aY (n0:=H.length) [(H.length,0)] hG hB hC' hcl
     rintro K2 n ⟨hn1,hn2,hnt⟩ hK2
     have hcm:(c.map SV.str).length=c.length:=List.length_map ..
     have hum:(u.map SV.str).length=u.length:=List.length_map ..
     have hnc:n≤c.length:=hn1
     by_cases hb1:n<c.length∧n<u.length
     ·have q1:(n:Int)<(c.length:Int):=by omega
      have q2:(n:Int)<(u.length:Int):=by omega
      have g1:(c.map SV.str)[n]? =some (.str c[n]):=by simp[hb1.1]
      have g2:(u.map SV.str)[n]? =some (.str u[n]):=by simp[hb1.2]
      have X:=And.intro aF (And.intro hcm (And.intro hum (And.intro q1 (And.intro q2 (And.intro g1 (And.intro g2 hnc))))))
      (refine run ?_;with_reducible repeat' first|exact trivial|(apply ad.mk<;>intro hb)|apply av.mk)
      ·refine hK2 _ _ (n+1) (by omega) ⟨by omega,by omega,by rw[List.take_succ_eq_append_getElem hb1.1,List.take_succ_eq_append_getElem hb1.2,hnt,hb]⟩ ?_
       exact aY (n0:=H.length) [(H.length,0)] hG hB hC' hcl
      ·have hlc:=lp c u n hnt hn1 hn2 (fun _ _=>hb)
       refine hK _ _ (i+1) (by omega) (by omega) ?_
       rw[hcs,hlc,Nat.sub_zero,← List.map_take]
       exact aY (n0:=H.length) [(H.length,0)] hG hB hC' hcl
     ·have hqf:(decide ((n:Int)<(c.length:Int))&&decide ((n:Int)<(u.length:Int)))=false:=by
       rw[Bool.eq_false_iff]
       intro h
       simp only[Bool.and_eq_true,decide_eq_true_eq] at h
       exact hb1 ⟨by omega,by omega⟩
      have X:=And.intro aF (And.intro hcm (And.intro hum (And.intro hqf hnc)))
      (refine run ?_;with_reducible repeat' first|exact trivial|(apply ad.mk<;>intro hb)|apply av.mk)
      have hlc:=lp c u n hnt hn1 hn2 (fun q1 q2=>absurd ⟨q1,q2⟩ hb1)
      refine hK _ _ (i+1) (by omega) (by omega) ?_
      rw[hcs,hlc,Nat.sub_zero,← List.map_take]
      exact aY (n0:=H.length) [(H.length,0)] hG hB hC' hcl
    obtain rfl:i=alts.length:=by omega
    clear hK
    have hci:=hcw alts.length
    rw[List.take_length] at hci ⊢
    generalize jQ (aZ aU (bc [] l) m) nm F alts=c at*
    have c3:=fun H=>vz G hG F c (by omega) H
    have X:=And.intro aF (Int.lt_irrefl (alts.length:Int))
    (refine run ?_;with_reducible repeat' first|exact trivial|(apply ad.mk<;>intro hb)|apply av.mk)
    exact aS (n0:=H.length) hR hC' hcl (.same _ (bp _ _)) ⟨rfl,rfl⟩
   rw[if_neg h6]
   generalize s::rs=ae at*
   refine af.aD TB [] aA _ Tryz.func31 rfl (by decide) Tryz.ntmps31 (by simp) rfl (by simp only[ap,Nat.reduceAdd];rfl) fun C R' hR hC hcl hB=>?_;have X:=aF;have hC':=congrArg List.length hC
   have X:=And.intro aF (And.intro h1 (And.intro h8 (And.intro h4 (And.intro h5 h6))))
   (refine run ?_;with_reducible repeat' first|exact trivial|(apply ad.mk<;>intro hb)|apply av.mk)
   exact aS (n0:=H.length) hR hC' hcl (.nil _) ⟨rfl,rfl⟩
def Cr (a:Ex) (t:aE) (b:List SV):List SV:=[.int .i64 6,.str t,.int .i64 0,.int .i64 0,.list 1 [],.list 8 [.agg a.cells],.list 9 [],.list 12 [.agg ([.int .i64 3,.str [],.int .i64 0,.list 1 []]++b)]]
theorem iW (n:Nat) (a:Ex) (t:aE) {b:List SV} (h:SV.aB n b=true):SV.aB n (Cr a t b)=true:=by
 simp only[Cr,SV.aB,SV.under,Ex.bD,SV.ew,h,Bool.and_self]
theorem vV (G:Gl) (hG:au G) (a:Ex) (t:aE) (b:List SV) (hb8:b.length=8) (H:List ax) (hbu:SV.aB H.length b=true):
 af Tryz.prog G 87 [.agg a.cells,.str t,.agg b] H (fun r H'=>H'=H∧r= .agg (Cr a t b)):=by
 have hau:=iW H.length a t hbu
 obtain⟨k2,n2,nn2,op2,ns2,ss2,bs2,as2⟩:=a
 match b,hb8 with
 |[b0,b1,b2,b3,b4,b5,b6,b7],_=>
  refine af.aD TB [] aA _ Tryz.func87 rfl (by decide) Tryz.ntmps87 (by simp) rfl (by simp only[ap,Nat.reduceAdd];rfl) fun C R' hR hC hcl hB=>?_;have X:=aF;have hC':=congrArg List.length hC
  (refine run ?_;with_reducible repeat' first|exact trivial|(apply ad.mk<;>intro hb)|apply av.mk)
  exact aS (n0:=H.length) hR hC' hcl (.same _ (by simp only[bq,SV.under];exact hau)) ⟨rfl,rfl⟩
theorem uE (G:Gl) (hG:au G) (l:List aE) (H:List ax):af Tryz.prog G 127 [.list 1 (l.map .str)] H (fun r H'=>H'=H∧r= .fn (.func 154) [] [.kC (.list 1 (l.map .str))]):=by
 refine af.aD TB [] aA _ Tryz.func127 rfl (by decide) Tryz.ntmps127 (by simp) rfl (by simp only[ap,Nat.reduceAdd];rfl) fun C R' hR hC hcl hB=>?_;have X:=aF;have hC':=congrArg List.length hC
 (refine bL ?_;with_reducible repeat' first|exact trivial|(apply ad.mk<;>intro hb)|apply av.mk)
 refine Fin.bY (n0:=H.length) hR (by simp) (by rw[hC]) hcl (.fn _ _ _ _ _ .nil (.cons _ _ _ _ ?_ .nil)) ⟨rfl,rfl⟩
 refine .ptr _ _ _ _ _ _ _ (by exact dq) (Nat.le_refl _) (by simp) rfl (.same _ ?_)
 exact bp _ _
theorem sR (G:Gl) (l:List aE) (hl:l.length<1099511627776) (n1:Nat) (Hs:Nat→List ax)
 (hy:∀ i (h:i<l.length) X,bz Tryz.prog G (.it n1) [.int .i64 i,.str l[i]] (Hs (i+1)++X) (fun r H'=>H'=Hs i++X∧r= .bool true)):
 af Tryz.prog G 154 [.it n1,.kC (.list 1 (l.map .str))] (Hs l.length) (fun r H'=>H'=Hs 0):=by
 have hlm:(l.map SV.str).length=l.length:=List.length_map ..
 refine af.aD TB [] aA _ Tryz.func154 rfl (by decide) Tryz.ntmps154 (by simp) rfl (by simp only[ap,Nat.reduceAdd];rfl) fun C R' hR hC hcl hB=>?_;have X:=aF;have hC':=congrArg List.length hC
 have X:=And.intro X hlm
 (refine bL ?_;with_reducible repeat' first|exact trivial|(apply ad.mk<;>intro hb)|apply av.mk)
 refine az (fun a:Nat=>[(0,.it n1),(1,.kC (.list 1 (l.map .str))),(3,.int .i64 ((a:Int) - 1))]) (fun a=>Hs a) (fun a=>a) (fun a=>a≤l.length) l.length (Nat.le_refl _) (Wk.sub (by simp[bg,look])) ?_
 intro K a ha hK
 rcases Nat.eq_zero_or_pos a with h0|hpos
 ·subst h0
  have hn:¬ (0:Int)≤((0:Nat):Int) - 1:=by omega
  have X:=And.intro aF hn
  clear hK
  (refine bL ?_;with_reducible repeat' first|exact trivial|(apply ad.mk<;>intro hb)|apply av.mk)
  exact Fin.out hR rfl
 ·obtain⟨b,rfl⟩:∃ b,a=b+1:=⟨a - 1,by omega⟩
  have hlt:b<l.length:=by omega
  have e:(((b+1:Nat):Int) - 1)=(b:Int):=by omega
  have hge:(0:Int)≤(b:Int):=by omega
  have g1:(l.map SV.str)[b]? =some (.str l[b]):=by simp[hlt]
  have hcall:=hy b hlt []
  rw[List.append_nil,List.append_nil] at hcall
  have X:=And.intro aF (And.intro e (And.intro hge g1))
  rw[e]
  (refine bL ?_;with_reducible repeat' first|exact trivial|(apply ad.mk<;>intro hb)|apply av.mk)
  refine nk rfl ?_ rfl hcall ?_
  ·exact cq
  rintro r H' ⟨rfl,rfl⟩
  (refine bL ?_;with_reducible repeat' first|exact trivial|(apply ad.mk<;>intro hb)|apply av.mk)
  refine hK _ _ b (by omega) (by omega) ?_
  exact Wk.sub (by simp[bg,look])
def iS (t:aE):Ex:= .mk 1 t 0 0 [] [] [] []
def Bp (its:Nat→aE) (n:Nat):aE:=[116,35]++its n
def cZ (its:Nat→aE):List Int→List Ex→Nat→List (aE×Ex)×List Ex×Nat
 |[],S,nx=>([],S,nx)
 |n::r,S,nx=>
  if (S.getD (n.toNat+1) iO).kind=1 then ([],S,nx)
  else if (S.getD (n.toNat+1) iO).kind=2∨(S.getD (n.toNat+1) iO).kind=3∨(S.getD (n.toNat+1) iO).kind=7 then cZ its r S nx
  else ((Bp its nx,S.getD (n.toNat+1) iO)::(cZ its r (S.set (n.toNat+1) (iS (Bp its nx))) (nx+1)).1,(cZ its r (S.set (n.toNat+1) (iS (Bp its nx))) (nx+1)).2)
theorem kX (its:Nat→aE):∀ (ns:List Int) (S:List Ex) (nx:Nat),(cZ its ns S nx).1.length≤ns.length
 |[],_,_=>Nat.le_refl _
 |n::r,S,nx=>by
  rw[cZ]
  split
  ·exact Nat.zero_le _
  ·split
   ·exact Nat.le_succ_of_le (kX its r S nx)
   ·exact Nat.succ_le_succ (kX its r _ (nx+1))
def lJ (P:List (aE×Ex)) (b:List SV):List SV:=P.foldr (fun p b=>Cr p.2 p.1 b) b
theorem pa (S:List Ex) (i:Nat) (x:Ex):(ag S).set i (.agg x.cells)=ag (S.set i x):=by simp[bh,List.map_set];rfl
theorem Lz {H:List ax} {id g sb g0:Nat} {S0:List Ex} {kb:SV} {nx0:Int} (h1:H[id]? =some (.cells g 8 (ag S0))) (h2:H[sb]? =some (.cells g0 2 [.agg [kb,.int .i64 nx0]])) (hkb:kb.under H.length=true):
 ∃ Q:List Ex→Int→List ax,Q S0 nx0=H∧(∀ S nx,(H.set id (.cells g 8 (ag S))).set sb (.cells g0 2 [.agg [kb,.int .i64 nx]])=Q S nx)∧(∀ S nx,(Q S nx).length=H.length)∧
  ((∀ S nx L,(Q S nx++L)[id]? =some (.cells g 8 (ag S)))∧(∀ S nx L,(Q S nx++L)[sb]? =some (.cells g0 2 [.agg [kb,.int .i64 nx]]))∧(∀ S nx S' L,(Q S nx++L).set id (.cells g 8 (ag S'))=Q S' nx++L)∧(∀ S nx nx' L,(Q S nx++L).set sb (.cells g0 2 [.agg [kb,.int .i64 nx']])=Q S nx'++L))∧(closed H→∀ S nx,closed (Q S nx)):=by
 have l1:=(List.getElem?_eq_some_iff.1 h1).1
 have l2:=(List.getElem?_eq_some_iff.1 h2).1
 have hne:id≠sb:=fun e=>by
  rw[e,h2] at h1
  have:=Option.some.inj h1
  simp at this
 refine⟨fun S nx=>(H.set id (.cells g 8 (ag S))).set sb (.cells g0 2 [.agg [kb,.int .i64 nx]]),by simp only;rw[eg h1,eg h2],fun _ _=>rfl,fun S nx=>by simp,⟨fun S nx L=>?_,fun S nx L=>?_,fun S nx S' L=>?_,fun S nx nx' L=>?_⟩,fun hc S nx=>(hc.set (b:= .cells g 8 (ag S)) (dF _ _)).set ?_⟩
 ·rw[List.getElem?_append_left (by simpa using l1),List.getElem?_set_ne (fun e=>hne e.symm),List.getElem?_set_self l1]
 ·rw[List.getElem?_append_left (by simpa using l2),List.getElem?_set_self (by simpa using l2)]
 ·rw[eN (by simpa using l1),List.set_comm _ _ (fun e=>hne e.symm),List.set_set]
 ·rw[eN (by simpa using l2),List.set_set]
 ·simp only[List.length_set,ax.under,SV.aB,SV.under,hkb,Bool.and_self]
theorem IY (n:Nat):[n,n+1,n+2,n+3,n+4].Nodup:=by
 refine List.pairwise_iff_getElem.2 fun i j hi hj hij=>?_
 have h:∀ q (hq:q<5),([n,n+1,n+2,n+3,n+4]:List Nat)[q]=n+q:=fun q hq=>by
  match q,hq with
  |0,_=>rfl
  |1,_=>rfl
  |2,_=>rfl
  |3,_=>rfl
  |4,_=>rfl
 rw[h i hi,h j hj];omega
theorem Nk (n:Nat):[n,n+1,n+3,n+4].Nodup:=by
 have h:=IY n
 simp only[List.nodup_cons,List.mem_cons,List.not_mem_nil,or_false,not_or] at h ⊢
 exact⟨⟨h.1.1,h.1.2.2.1,h.1.2.2.2⟩,⟨h.2.1.2.1,h.2.1.2.2⟩,h.2.2.2⟩
theorem GZ (P:List (aE×Ex)) {E:List SV} {n0:Nat} (hE:SV.aB n0 (List.drop 0 [SV.agg E])=true) (h8:E.length=8):
 ∃ W:Nat→List SV,E=W P.length∧lJ P E=W 0∧(∀ j (h:j<P.length),Cr P[j].2 P[j].1 (W (j+1))=W j)∧(∀ j,(W j).length=8)∧(∀ n,n0≤n→∀ j,SV.aB n (W j)=true):=by
 refine⟨fun j=>lJ (P.drop j) E,by simp only[List.drop_length];rfl,by simp only[List.drop_zero],fun j h=>by simp only;rw[List.drop_eq_getElem_cons h];rfl,fun j=>?_,fun n hn j=>?_⟩
 ·simp only
  generalize P.drop j=Q
  cases Q with
  |nil=>exact h8
  |cons p r=>rfl
 ·simp only
  generalize P.drop j=Q
  induction Q with
  |nil=>exact(SV.bW hn).2 E (by simpa only[List.drop_zero,SV.aB,SV.under,Bool.and_true] using hE)
  |cons p r ih=>exact iW n p.2 p.1 ih
theorem qI {L:List Ex} {j:Nat} (h:j<L.length):(ag L)[j]? =some (.agg L[j].cells):=by
 rw[bh];simp[h];rfl
theorem Aq (G:Gl) (hG:au G) (its:Nat→aE) (ns:List Int) (S0:List Ex) (nx0:Nat) (kd nn op:Int) (nm:aE) (names:List aE) (xb xa kb:SV) (H:List ax) (id g sb g0:Nat)
 (h1:H[id]? =some (.cells g 8 (ag S0))) (h2:H[sb]? =some (.cells g0 2 [.agg [kb,.int .i64 nx0]])) (hkb:kb.under H.length=true) (hxb:xb.under H.length=true) (hxa:xa.under H.length=true) (hxbl:xb.leaf=true) (hxal:xa.leaf=true)
 (hrg:∀ n∈ns,0≤n∧n+1<(S0.length:Int)) (hns:ns.length<4294967296) (hS:S0.length<4294967296) (hnx:nx0<4294967296)
 (hit:∀ n,nx0≤n→n<nx0+ns.length→(its n).length<100∧∀ H,af Tryz.prog G 82 [.int .i64 (n:Int)] H (fun r H'=>H'=H∧r= .str (its n))):
 af Tryz.prog G 88 [.ptr sb g0 0 0,.agg [.int .i64 kd,.str nm,.int .i64 nn,.int .i64 op,.list 1 (names.map .str),.sl id g 0 S0.length,xb,xa],.list 1 (cc ns)] H (fun r H'=>H'=(H.set id (.cells g 8 (ag (cZ its ns S0 nx0).2.1))).set sb (.cells g0 2 [.agg [kb,.int .i64 ((cZ its ns S0 nx0).2.2:Int)]])∧r= .agg (lJ (cZ its ns S0 nx0).1 [.int .i64 kd,.str nm,.int .i64 nn,.int .i64 op,.list 1 (names.map .str),.sl id g 0 S0.length,xb,xa])):=by
 obtain⟨Q,q0,qd,hlen,qx,qc⟩:=Lz h1 h2 hkb
 have l1:=(List.getElem?_eq_some_iff.1 h1).1
 have l2:=(List.getElem?_eq_some_iff.1 h2).1
 simp only[qd]
 rw[← q0]
 refine af.aD TB [7] aA _ Tryz.func88 rfl (by decide) Tryz.ntmps88 (by simp) rfl (by simp only[ap,Nat.reduceAdd];rfl) fun C R' hR hC hcl hB=>?_;have X:=aF;have hC':=congrArg List.length hC
 have hC':=hC'.trans (hlen _ _)
 have hcls:∀ S nx,closed (Q S nx):=fun S nx=>qc (q0 ▸ hcl) S nx
 generalize hn0:H.length=n0 at*
 have hx2:(∀ S nx,(Q S nx).length=n0)∧(∀ S nx L,(Q S nx++L)[n0]? =L[0]?)∧(∀ S nx L k,(Q S nx++L)[n0+k]? =L[k]?)∧(∀ S nx L x,(Q S nx++L).set n0 x=Q S nx++L.set 0 x)∧(∀ S nx L k x,(Q S nx++L).set (n0+k) x=Q S nx++L.set k x):=
  ⟨hlen,fun S nx L=>by rw[← hlen S nx];exact cS _ _,fun S nx L k=>by rw[← hlen S nx];exact bZ _ _ _,fun S nx L x=>by rw[← hlen S nx];exact fB _ _ _,fun S nx L k x=>by rw[← hlen S nx];exact cB _ _ _ _⟩
 obtain⟨hx21,hx22,hx23,hx24,hx25⟩:=hx2
 have hE0:SV.aB n0 (List.drop 0 [SV.agg [.int .i64 kd,.str nm,.int .i64 nn,.int .i64 op,.list 1 (names.map .str),.sl id g 0 S0.length,xb,xa]])=true:=by
  simp only[List.drop_zero,SV.aB,SV.under,hxb,hxa,bp,l1,decide_true,Bool.and_self,Bool.and_true]
 have X:=And.intro aF (And.intro qx (And.intro hx21 (And.intro hx22 (And.intro hx23 (And.intro hx24 hx25)))))
 (refine yd ?_;with_reducible repeat' first|exact trivial|(apply ad.mk<;>intro hb)|apply av.mk)
 refine qV _ _ (Cb (id:=n0+3) (g:=0) (s:=1) (i:=0) (vals:=[.nil]) 8 (by rw[hx23];rfl) rfl) ?_
 simp only[hx25,hx21,List.length_append,List.length_cons,List.length_nil,List.set_cons_succ,List.set_cons_zero,Nat.reduceAdd,List.append_assoc,List.cons_append,List.nil_append]
 refine dQ (fun _:Unit=>[(4,.ptr n0 0 0 0),(6,.ptr (n0+1) 0 0 0),(7,.list 1 (((cZ its ns S0 nx0).1.map Prod.fst).map .str)),(8,.ptr (n0+2) 0 0 0)])
  (fun _=>Q (cZ its ns S0 nx0).2.1 (cZ its ns S0 nx0).2.2++[.cells 0 8 [.agg [.int .i64 kd,.str nm,.int .i64 nn,.int .i64 op,.list 1 (names.map .str),.sl id g 0 S0.length,xb,xa]],.cells 0 8 [.agg [.int .i64 0,.str [],.int .i64 0,.int .i64 0,.list 1 [],.list 8 [],.list 9 [],.list 12 []]],.cells 0 1 [.sl (n0+3) 0 0 (cZ its ns S0 nx0).1.length],.cells 0 8 (ag ((cZ its ns S0 nx0).1.map Prod.snd))]) (fun _=>True) (fun K0 hK0=>?_) (fun _ _=>?_)
 ·(refine run ?_;with_reducible repeat' first|exact trivial|(apply ad.mk<;>intro hb)|apply av.mk)
  refine az (fun a:Nat×List Ex×List (aE×Ex)×Nat=>[(0,.ptr sb g0 0 0),(4,.ptr n0 0 0 0),(6,.ptr (n0+1) 0 0 0),(7,.sl (n0+2) 0 0 a.2.2.1.length),(8,.ptr (n0+3) 0 0 0),(15,.list 1 (cc ns)),(16,.int .i64 ns.length),(17,.int .i64 (a.1:Int))])
   (fun a=>Q a.2.1 a.2.2.2++[.cells 0 8 [.agg [.int .i64 kd,.str nm,.int .i64 nn,.int .i64 op,.list 1 (names.map .str),.sl id g 0 S0.length,xb,xa]],.cells 0 8 [.agg [.int .i64 0,.str [],.int .i64 0,.int .i64 0,.list 1 [],.list 8 [],.list 9 [],.list 12 []]],.cells 0 1 ((a.2.2.1.map Prod.fst).map .str),.cells 0 1 [.sl (n0+4) 0 0 a.2.2.1.length],.cells 0 8 (ag (a.2.2.1.map Prod.snd))]) (fun a=>ns.length - a.1)
   (fun a=>(a.1≤ns.length∧a.2.1.length=S0.length∧a.2.2.1.length≤a.1∧nx0≤a.2.2.2∧a.2.2.2≤nx0+a.1)∧cZ its ns S0 nx0=(a.2.2.1++(cZ its (ns.drop a.1) a.2.1 a.2.2.2).1,(cZ its (ns.drop a.1) a.2.1 a.2.2.2).2)) (0,S0,[],nx0) ⟨⟨Nat.zero_le _,rfl,Nat.le_refl _,Nat.le_refl _,Nat.le_refl _⟩,rfl⟩ ?_ ?_
  ·simp only[List.length_nil,List.map_nil,ag]
   exact aY (n0:=n0) [(n0,0),(n0+1,0),(n0+2,0),(n0+3,0),(n0+4,0)] hG hB hC' (hcls _ _) (hn:=hlen _ _) (hd:=IY n0)
  rintro K ⟨i,S,P,nx⟩ ⟨⟨hi,hSl,hPl,hnl,hnu⟩,hgv⟩ hK
  simp only at hi hSl hPl hnl hnu hgv
  dsimp only
  rcases Nat.lt_or_ge i ns.length with hlt|hge
  rotate_left
  ·have hni:¬ (i:Int)<(ns.length:Int):=by omega
   rw[List.drop_eq_nil_of_le hge] at hgv
   simp only[cZ,List.append_nil] at hgv
   clear hK
   have X:=And.intro (And.intro aF (And.intro qx (And.intro hx21 (And.intro hx22 (And.intro hx23 (And.intro hx24 hx25)))))) hni
   (refine run ?_;with_reducible repeat' first|exact trivial|(apply ad.mk<;>intro hb)|apply av.mk)
   refine hK0 _ _ () trivial ?_
   simp only[hgv]
   exact aY (n0:=n0) [(n0,0),(n0+1,0),(n0+3,0),(n0+4,0)] hG hB hC' (hcls _ _) (hn:=hlen _ _) (hd:=Nk n0)
  have hg1:(cc ns)[i]? =some (.int .i64 ns[i]):=by simp[cc,hlt]
  obtain⟨hr1,hr2⟩:=hrg ns[i] (List.getElem_mem hlt)
  rw[List.drop_eq_getElem_cons hlt,cZ] at hgv
  generalize ns[i]=n at*
  have hidx:(n+1).toNat=n.toNat+1:=by omega
  have hlt2:n.toNat+1<S.length:=by omega
  have hSx:S[n.toNat+1]? =some S[n.toNat+1]:=List.getElem?_eq_getElem hlt2
  have hgd:S.getD (n.toNat+1) iO=S[n.toNat+1]:=by rw[List.getD_eq_getElem?_getD,hSx];rfl
  rw[hgd] at hgv
  have hsn1:∀ t,(P.map Prod.fst).map SV.str++[SV.str t]=((P++[(t,S[n.toNat+1])]).map Prod.fst).map SV.str:=fun t=>by simp
  have hsn2:∀ t,ag (P.map Prod.snd)++[.agg S[n.toNat+1].cells]=ag ((P++[(t,S[n.toNat+1])]).map Prod.snd):=fun t=>by rw[fP,List.map_append];rfl
  have hst:∀ t,(ag S).set (n.toNat+1) (.agg [.int .i64 1,.str t,.int .i64 0,.int .i64 0,.list 1 [],.list 8 [],.list 9 [],.list 12 []])=ag (S.set (n.toNat+1) (iS t)):=fun t=>pa S _ (iS t)
  generalize S[n.toNat+1]=x at*
  obtain⟨k2,n2,nn2,op2,ns2,ss2,bs2,as2⟩:=x
  have hk:(Ex.mk k2 n2 nn2 op2 ns2 ss2 bs2 as2).kind=k2:=rfl
  rw[hk] at hgv
  have hb1:0≤n+1:=by omega
  have hb2:n+1<(S.length:Int):=by omega
  by_cases h1:k2=1
  ·rw[if_pos h1] at hgv
   simp only[List.append_nil] at hgv
   clear hK
   have X:=And.intro (And.intro aF (And.intro qx (And.intro hx21 (And.intro hx22 (And.intro hx23 (And.intro hx24 hx25)))))) (And.intro hg1 (And.intro hidx (And.intro hSx (And.intro hSl h1))))
   (refine run ?_;with_reducible repeat' first|exact trivial|(apply ad.mk<;>intro hb)|apply av.mk)
   refine hK0 _ _ () trivial ?_
   simp only[hgv]
   exact aY (n0:=n0) [(n0,0),(n0+1,0),(n0+3,0),(n0+4,0)] hG hB hC' (hcls _ _) (hn:=hlen _ _) (hd:=Nk n0)
  rw[if_neg h1] at hgv
  by_cases h2:k2=2∨k2=3∨k2=7
  ·rw[if_pos h2] at hgv
   have X:=And.intro (And.intro aF (And.intro qx (And.intro hx21 (And.intro hx22 (And.intro hx23 (And.intro hx24 hx25)))))) (And.intro hg1 (And.intro hidx (And.intro hSx (And.intro hSl h1))))
   (refine run ?_;with_reducible repeat' first|exact trivial|(apply ad.mk<;>intro hb)|apply av.mk)
   ·refine hK _ _ (i+1,S,P,nx) (by simp only;omega) ⟨⟨by simp only;omega,hSl,by simp only;omega,hnl,by simp only;omega⟩,hgv⟩ ?_
    dsimp only
    exact aY (n0:=n0) [(n0,0),(n0+1,0),(n0+2,0),(n0+3,0),(n0+4,0)] hG hB hC' (hcls _ _) (hn:=hlen _ _) (hd:=IY n0)
   ·exfalso
    simp only[Bool.or_eq_false_iff,decide_eq_false_iff_not] at hb
    rcases h2 with h|h|h
    ·exact hb.1.1 h
    ·exact hb.1.2 h
    ·exact hb.2 h
  rw[if_neg h2] at hgv
  obtain⟨hil,hic⟩:=hit nx (by omega) (by omega)
  have hnxe:(nx:Int)+1=((nx+1:Nat):Int):=by omega
  obtain⟨tt,htt⟩:∃ tt,Bp its nx=tt:=⟨_,rfl⟩
  have ht1:([116,35]++its nx:aE)=tt:=htt
  have ht2:(116::35::its nx:aE)=tt:=htt
  rw[htt] at hgv
  have e1:=hsn1 tt
  have e2:=hsn2 tt
  have e3:=hst tt
  clear hsn1 hsn2 hst
  have hmx:2+(its nx).length≤maxLen:=by unfold maxLen;omega
  have hl1:((P.map Prod.fst).map SV.str).length=P.length:=by simp
  have hl2:(ag (P.map Prod.snd)).length=P.length:=by rw[cR];simp
  have hcx:(Ex.mk k2 n2 nn2 op2 ns2 ss2 bs2 as2).cells=[.int .i64 k2,.str n2,.int .i64 nn2,.int .i64 op2,.list 1 (ns2.map .str),.list 8 (ag ss2),.list 9 (ah bs2),.list 12 (aw as2)]:=rfl
  rw[hcx] at e2
  have X:=And.intro (And.intro aF (And.intro qx (And.intro hx21 (And.intro hx22 (And.intro hx23 (And.intro hx24 hx25)))))) (And.intro hg1 (And.intro hidx (And.intro hSx (And.intro hSl (And.intro h1 (And.intro hnxe (And.intro e1 (And.intro e2 (And.intro e3 (And.intro hl1 (And.intro hl2 (And.intro ht1 (And.intro ht2 hmx)))))))))))))
  (refine run ?_;with_reducible repeat' first|exact trivial|(apply ad.mk<;>intro hb)|apply av.mk)
  ·exfalso
   simp only[Bool.or_eq_true,decide_eq_true_eq] at hb
   exact h2 (by rcases hb with (h|h)|h;exact .inl h;exact .inr (.inl h);exact .inr (.inr h))
  refine bt (hic _) ?_
  rintro r H' ⟨rfl,rfl⟩
  (refine run ?_;with_reducible repeat' first|exact trivial|(apply ad.mk<;>intro hb)|apply av.mk)
  refine hK _ _ (i+1,S.set (n.toNat+1) (iS tt),P++[(tt,.mk k2 n2 nn2 op2 ns2 ss2 bs2 as2)],nx+1) (by simp only;omega) ⟨⟨by simp only;omega,by simp only[List.length_set];omega,by simp only[List.length_append,List.length_cons,List.length_nil];omega,by simp only;omega,by simp only;omega⟩,by simp only[hgv,List.append_assoc,List.cons_append,List.nil_append]⟩ ?_
  dsimp only
  rw[List.length_append,List.length_cons,List.length_nil]
  exact aY (n0:=n0) [(n0,0),(n0+1,0),(n0+2,0),(n0+3,0),(n0+4,0)] hG hB hC' (hcls _ _) (hn:=hlen _ _) (hd:=IY n0)
 ·have hfl:=kX its ns S0 nx0
  generalize cZ its ns S0 nx0=FF at hR hfl ⊢
  obtain⟨PF,SF,nxF⟩:=FF
  obtain⟨W,hW1,hW2,hW3,hW4,hW5⟩:=GZ PF hE0 rfl
  simp only at hR hfl ⊢
  rw[hW2] at hR
  rw[hW1]
  have hPl:PF.length<1099511627776:=by omega
  have hall:∀ j (h:j<PF.length),(ag (PF.map Prod.snd))[j]? =some (.agg PF[j].2.cells):=fun j h=>by rw[qI (by simpa using h)];simp
  have hnl:((PF.map Prod.fst)).length=PF.length:=by simp
  have X:=And.intro aF (And.intro qx (And.intro hx21 (And.intro hx22 (And.intro hx23 (And.intro hx24 hx25)))))
  (refine run ?_;with_reducible repeat' first|exact trivial|(apply ad.mk<;>intro hb)|apply av.mk)
  refine bt (uE G hG (PF.map Prod.fst) _) ?_
  rintro r H' ⟨rfl,rfl⟩
  (refine run ?_;with_reducible repeat' first|exact trivial|(apply ad.mk<;>intro hb)|apply av.mk)
  refine nr aA (σ:=Nat) (ξ:=Nat×aE×Ex) (fun j=>Q SF nxF++[.cells 0 8 [.agg (W j)],.cells 0 8 [.agg [.int .i64 0,.str [],.int .i64 0,.int .i64 0,.list 1 [],.list 8 [],.list 9 [],.list 12 []]],.cells 0 1 [.sl (n0+3) 0 0 PF.length],.cells 0 8 (ag (PF.map Prod.snd))]) (n0+4) (fun s=>by rw[List.length_append,hlen];rfl) PF.length
   [(4,.ptr n0 0 0 0),(6,.ptr (n0+1) 0 0 0),(8,.ptr (n0+2) 0 0 0),(73,.fn (.func 154) [] [.kC (.list 1 ((PF.map Prod.fst).map .str))])] (fun x=>[.int .i64 x.1,.str x.2.1]) (fun s x=>s=x.1+1∧PF[x.1]? =some x.2) (fun s x=>x.1) (fun s=>s=0)
   (fun x=>[(75,.str x.2.1),(74,.int .i64 x.1),(4,.ptr n0 0 0 0),(6,.ptr (n0+1) 0 0 0),(8,.ptr (n0+2) 0 0 0),(73,.fn (.func 154) [] [.kC (.list 1 ((PF.map Prod.fst).map .str))])]) rfl rfl (fun x=>rfl) (fun x=>rfl) ?_ ?_ ?_ ?_
  ·exact Wk.sub (by simp[bg,look])
  ·intro G' LO hGl hLO hy
   have:=sR G' (PF.map Prod.fst) (by omega) (n0+4) (fun i=>(Q SF nxF++[.cells 0 8 [.agg (W i)],.cells 0 8 [.agg [.int .i64 0,.str [],.int .i64 0,.int .i64 0,.list 1 [],.list 8 [],.list 9 [],.list 12 []]],.cells 0 1 [.sl (n0+3) 0 0 PF.length],.cells 0 8 (ag (PF.map Prod.snd))])++[LO]) (fun i hi Y=>by
    have:=hy (i+1) (i,PF[i]'(by omega)) Y ⟨rfl,List.getElem?_eq_getElem _⟩
    simpa only[List.getElem_map,List.append_assoc,List.cons_append,List.nil_append] using this)
   rw[hnl] at this
   exact this.mono fun r H' h=>⟨0,rfl,h⟩
  ·rintro G' C' ρ' s ⟨j,t,x⟩ Y LO LB K1 K hGl hB' hCH hcl' hLO hLB ⟨hs,hb⟩ hK1 hK
   subst hs
   have hj:j<PF.length:=(List.getElem?_eq_some_iff.1 hb).1
   have hbe:PF[j]=(t,x):=(List.getElem?_eq_some_iff.1 hb).2
   have hw:=hW3 j hj
   have ha:=hall j hj
   rw[hbe] at hw ha
   simp only at hw ha
   have h8:=hW4 (j+1)
   have hG':au G':=by unfold au;rw[hGl];exact hG
   have X:=And.intro aF (And.intro qx (And.intro hx21 (And.intro hx22 (And.intro hx23 (And.intro hx24 (And.intro hx25 (And.intro ha h8)))))))
   clear hall hW3 hW2 hW1
   simp only[List.append_assoc,List.cons_append,List.nil_append] at hcl' hCH ⊢
   (refine run ?_;with_reducible repeat' first|exact trivial|(apply ad.mk<;>intro hb)|apply av.mk)
   refine hK1 _ _ (by rw[hx23];rfl) ?_
   simp only[hx25,List.set_cons_succ,List.set_cons_zero]
   obtain⟨xk,xn,xnn,xop,xns,xss,xbs,xas⟩:=x
   generalize hWj:W (j+1)=b at*
   obtain⟨y0,y1,y2,y3,y4,y5,y6,y7,rfl⟩:∃ y0 y1 y2 y3 y4 y5 y6 y7,b=[y0,y1,y2,y3,y4,y5,y6,y7]:=by
    match b,h8 with
    |[y0,y1,y2,y3,y4,y5,y6,y7],_=>exact⟨_,_,_,_,_,_,_,_,rfl⟩
   have h8j:=hW4 j
   have X:=And.intro (And.intro aF (And.intro qx (And.intro hx21 (And.intro hx22 (And.intro hx23 (And.intro hx24 (And.intro hx25 (And.intro ha h8)))))))) h8j
   (refine run ?_;with_reducible repeat' first|exact trivial|(apply ad.mk<;>intro hb)|apply av.mk)
   refine du (vV G' hG' (.mk xk xn xnn xop xns xss xbs xas) t [y0,y1,y2,y3,y4,y5,y6,y7] rfl _ (by rw[← hWj];exact hW5 _ (by rw[List.length_append,hlen];omega) _)) ?_
   rintro r H' ⟨rfl,rfl⟩
   rw[hw]
   (refine run ?_;with_reducible repeat' first|exact trivial|(apply ad.mk<;>intro hb)|apply av.mk)
   refine hK _ _ ?_
   simp only[List.append_assoc,List.cons_append,List.nil_append]
   exact Wk.sub (by simp[bg])
  ·intro s LO hs hLO
   subst hs
   simp only[List.append_assoc,List.cons_append,List.nil_append]
   have h80:=hW4 0
   have X:=And.intro (And.intro aF (And.intro qx (And.intro hx21 (And.intro hx22 (And.intro hx23 (And.intro hx24 hx25)))))) h80
   (refine run ?_;with_reducible repeat' first|exact trivial|(apply ad.mk<;>intro hb)|apply av.mk)
   exact aS (n0:=n0) hR hC' (hcls _ _) (.same _ (by simp only[bq,SV.under];exact hW5 _ (Nat.le_refl _) 0)) ⟨rfl,rfl⟩ (hn:=hlen _ _)
end Go.Proofs.YtehfihnfeakmaaaGreatDoor
