/- A part of the proof: T1, A14a, A14, A15a, A15b, A15c, A15, A15d, A16, A17, A18, A19, B9, B10, U3, N3. Names and spaces are cut short by program. -/
import Derived.Test.YtjdfoonhnmpkdaaGreatDoorMj
set_option linter.unusedSimpArgs false
set_option linter.unusedVariables false
set_option maxRecDepth 10000
set_option maxHeartbeats 4000000
namespace Go.Proofs.YtjdfoonhnmpkdaaGreatDoor
open Go
theorem look_ok (G:Gl) (hG:ah G):∀ (m:Nat) (e:Ex) (H:List av) (id g:Nat) (s:aD) (n lams:Int) (b:Bool),e.wt≤m→H[id]? =some (.cells g 3 [tl s n b])→0≤n→n+e.wt<1099511627776→0≤lams→lams+e.wt<1099511627776→
 aq Tryz.prog G 158 [.ptr id g 0 0,e.sv,.int .i64 lams] H (fun r H'=>H'=H.set id (.cells g 3 [tl s (n+gU s e) (b||ma s (decide (0<lams)) e)]))
 |0,e,H,id,g,s,n,lams,b,hw,_,_,_,_,_=>by have:=e.bZ;omega
 |m+1,e,H,id,g,s,n,lams,b,hw,hid,hn0,hn1,hl0,hl1=>by
  obtain⟨kd,nm,nn,op,names,ae,binds,alts⟩:=e
  have hlen:=Ex.dn kd nm nn op names ae binds alts
  have hwt:(Ex.mk kd nm nn op names ae binds alts).wt=1+names.length+cn ae+aV binds+cf alts:=rfl
  have hlt:id<H.length:=(List.getElem?_eq_some_iff.1 hid).1
  have hlm:0≤(lams+if kd=3 then 1 else 0)∧(lams+if kd=3 then 1 else 0)≤lams+1:=by split<;>omega
  refine bP [6] Tryz.func158 Tryz.ntmps158 fun C R' hR hC hcl hB hC' X=>?_
  have hC':C.H.length=H.length:=by rw[hC]
  (have X:=And.intro X (And.intro hid @tl.eq_1);refine CD ?_)
  refine fA (fun _:Unit=>[(0,.ptr id g 0 0),(2,.int .i64 (lams+if kd=3 then 1 else 0)),(4,.ptr H.length 0 0 0),(6,.list 1 ((cA kd names binds).map .str))])
   (fun _=>H++[.cells 0 8 [.agg [.int .i64 kd,.str nm,.int .i64 nn,.int .i64 op,.list 1 (names.map .str),.list 8 (ag ae),.list 9 (ad binds),.list 12 (af alts)]]]) (fun _=>kd≠1) (fun K hK=>?_) (fun _ hkd=>?_)
  ·(have X:=And.intro X (And.intro hid @tl.eq_1);refine bK ?_;with_reducible repeat' first|exact trivial|(apply aJ.mk<;>intro hb)|apply bN.mk)
   ·rename_i h1 h2
    refine Fin.aS (n0:=H.length) hR (by simp) hC' (hcl.set rfl) (.same _ rfl) ?_
    simp[gU,ma,tl,h1,h2,hb]
   ·rename_i h1 h2
    refine Fin.aS (n0:=H.length) hR (by simp) hC' (hcl.set rfl) (.same _ rfl) ?_
    simp[gU,ma,tl,h1,h2,hb]
   ·rename_i h1
    refine Fin.aS (n0:=H.length) hR (by simp) hC' hcl (.same _ rfl) ?_
    simp[gU,ma,h1,hb,dM hid]
   ·refine hK _ _ () (by omega) ?_
    simp only[hb,if_true,cA]
    exact bI (n0:=H.length) [(H.length,0)] hG hB (by rw[hC]) hcl
   ·refine aA (fun i:Nat=>[(0,.ptr id g 0 0),(2,.int .i64 lams),(4,.ptr H.length 0 0 0),(53,.list 9 (ad binds)),(54,.int .i64 binds.length),(55,.int .i64 i),(6,.sl (H.length+1) 0 0 i)])
     (fun i=>H++[.cells 0 8 [.agg [.int .i64 kd,.str nm,.int .i64 nn,.int .i64 op,.list 1 (names.map .str),.list 8 (ag ae),.list 9 (ad binds),.list 12 (af alts)]],.cells 0 1 ((binds.take i).map fun b=> .str b.name)])
     (fun i=>binds.length - i) (fun i=>i≤binds.length) 0 (Nat.zero_le _) ?_ ?_
    ·exact bI (n0:=H.length) [(H.length,0),(H.length+1,0)] hG hB (by rw[hC]) hcl
    ·intro K2 i hi hK2
     (have X:=And.intro X (And.intro hid @tl.eq_1);refine bK ?_;with_reducible repeat' first|exact trivial|(apply aJ.mk<;>intro hb)|apply bN.mk)
     ·refine hK2 _ _ (i+1) (by omega) (by omega) ?_
      simp only[List.take_succ_eq_append_getElem (show i<binds.length by omega),List.map_append,List.map_cons,List.map_nil]
      exact bI (n0:=H.length) [(H.length,0),(H.length+1,0)] hG hB (by rw[hC]) hcl
     ·refine hK _ _ () (by omega) ?_
      have hi':i=binds.length:=by omega
      subst hi'
      rename_i h1 h2 h3
      have e1:cA kd names binds=binds.map Bd.name:=by simp[cA,h3]
      have e2:((lams+if kd=3 then 1 else 0):Int)=lams:=by simp[h2]
      simp only[e1,e2,List.take_length,List.map_map]
      exact bI (n0:=H.length) [(H.length,0)] hG hB (by rw[hC]) hcl
   ·refine hK _ _ () (by omega) ?_
    rename_i h1 h2
    simp only[h2,hb,if_false,cA,Int.add_zero]
    exact bI (n0:=H.length) [(H.length,0)] hG hB (by rw[hC]) hcl
  ·have hol:(cA kd names binds).length<4611686018427387904:=by unfold cA;split;omega;split;simp;omega;simp
   (have X:=And.intro X (And.intro hid @tl.eq_1);refine CD ?_)
   refine gS ?_ rfl (gR G (cA kd names binds) s _ hol) ?_
   ·exact cw
   rintro r H' ⟨rfl,rfl⟩
   (have X:=And.intro X (And.intro hid @tl.eq_1);refine CD ?_;with_reducible repeat' first|exact trivial|(apply aJ.mk<;>intro hb)|apply bN.mk)
   ·refine Fin.aS (n0:=H.length) hR (by simp) hC' hcl (.same _ rfl) ?_
    simp[gU,ma,hkd,hb,dM hid]
   have hno:=hb
   
   refine fA (fun a:Int×Bool=>[(0,.ptr id g 0 0),(2,.int .i64 (lams+if kd=3 then 1 else 0)),(4,.ptr H.length 0 0 0)])
    (fun a=>H.set id (.cells g 3 [.agg [.str s,.int .i64 a.1,.bool a.2]])++[.cells 0 8 [.agg [.int .i64 kd,.str nm,.int .i64 nn,.int .i64 op,.list 1 (names.map .str),.list 8 (ag ae),.list 9 (ad binds),.list 12 (af alts)]]]) (fun a=>a=(n+qI s ae,b||sB s (decide (0<lams)||decide (kd=3)) ae)) (fun K hK=>?_) ?_
   ·(refine bK ?_)
    refine aA (fun a:Nat×Int×Bool=>[(0,.ptr id g 0 0),(2,.int .i64 (lams+if kd=3 then 1 else 0)),(4,.ptr H.length 0 0 0),(72,.list 8 (ag ae)),(73,.int .i64 ae.length),(74,.int .i64 a.1)])
     (fun a=>H.set id (.cells g 3 [.agg [.str s,.int .i64 a.2.1,.bool a.2.2]])++[.cells 0 8 [.agg [.int .i64 kd,.str nm,.int .i64 nn,.int .i64 op,.list 1 (names.map .str),.list 8 (ag ae),.list 9 (ad binds),.list 12 (af alts)]]]) (fun a=>ae.length - a.1)
     (fun a=>a.1≤ae.length∧0≤a.2.1∧a.2.1+cn (ae.drop a.1)≤n+cn ae∧a.2.1+qI s (ae.drop a.1)=n+qI s ae∧(a.2.2||sB s (decide (0<lams)||decide (kd=3)) (ae.drop a.1))=(b||sB s (decide (0<lams)||decide (kd=3)) ae))
     (0,n,b) ⟨Nat.zero_le _,hn0,Int.le_refl _,rfl,rfl⟩ ?_ ?_
    ·rw[show H.set id (.cells g 3 [.agg [.str s,.int .i64 n,.bool b]])=H from dM hid]
     exact bI (n0:=H.length) [(H.length,0)] hG hB (by rw[hC]) hcl
    ·rintro K2 ⟨i,n',b'⟩ ⟨hi,h1,h2,h3,h4⟩ hK2
     simp only at hi h1 h2 h3 h4
     (refine bK ?_;with_reducible repeat' first|exact trivial|(apply aJ.mk<;>intro hb)|apply bN.mk)
     ·have hi':i<ae.length:=by omega
      rw[List.drop_eq_getElem_cons hi'] at h2 h3 h4
      simp only[cn,qI,sB] at h2 h3 h4
      have hm:=fg (List.getElem_mem hi')
      have ho:=rK s ae[i]
      refine gS ?_ rfl (look_ok G hG m ae[i] _ id g s n' (lams+if kd=3 then 1 else 0) b' (by omega) (kL hlt) h1 (by omega) hlm.1 (by omega)) ?_
      ·exact cw
      intro r H' hH
      rw[jD hlt] at hH
      subst hH
      (refine bK ?_)
      refine hK2 _ _ (i+1,n'+gU s ae[i],b'||ma s (decide (0<lams)||decide (kd=3)) ae[i]) (by simp only;omega) ⟨by simp only;omega,by simp only;omega,by simp only;omega,by simp only;omega,?_⟩ ?_
      ·simp only;rw[← h4,Bool.or_assoc]
      ·have e:decide (0<(lams+if kd=3 then 1 else 0))=(decide (0<lams)||decide (kd=3)):=by
        by_cases h:kd=3<;>simp[h]<;>omega
       rw[e]
       exact bI (n0:=H.length) [(H.length,0)] hG hB (by rw[hC]) (hcl.set rfl)
     ·have hi':i=ae.length:=by omega
      subst hi'
      rw[List.drop_length] at h3 h4
      simp only[qI,sB,Bool.or_false] at h3 h4
      refine hK _ _ (n',b') (by rw[← h4,← h3];simp) ?_
      exact bI (n0:=H.length) [(H.length,0)] hG hB (by rw[hC]) (hcl.set rfl)
   rintro _ rfl
   generalize hn1':n+(qI s ae:Int)=n1
   generalize hb1':(b||sB s (decide (0<lams)||decide (kd=3)) ae)=b1
   have ho1:=zO s ae
   (refine CD ?_)
   refine fA (fun a:Int×Bool=>[(0,.ptr id g 0 0),(2,.int .i64 (lams+if kd=3 then 1 else 0)),(4,.ptr H.length 0 0 0)])
    (fun a=>H.set id (.cells g 3 [.agg [.str s,.int .i64 a.1,.bool a.2]])++[.cells 0 8 [.agg [.int .i64 kd,.str nm,.int .i64 nn,.int .i64 op,.list 1 (names.map .str),.list 8 (ag ae),.list 9 (ad binds),.list 12 (af alts)]]]) (fun a=>a=(n1+qH s binds,b1||sA s (decide (0<lams)||decide (kd=3)) binds)) (fun K hK=>?_) ?_
   ·(refine bK ?_)
    refine aA (fun a:Nat×Int×Bool=>[(0,.ptr id g 0 0),(2,.int .i64 (lams+if kd=3 then 1 else 0)),(4,.ptr H.length 0 0 0),(84,.list 9 (ad binds)),(85,.int .i64 binds.length),(86,.int .i64 a.1)])
     (fun a=>H.set id (.cells g 3 [.agg [.str s,.int .i64 a.2.1,.bool a.2.2]])++[.cells 0 8 [.agg [.int .i64 kd,.str nm,.int .i64 nn,.int .i64 op,.list 1 (names.map .str),.list 8 (ag ae),.list 9 (ad binds),.list 12 (af alts)]]]) (fun a=>binds.length - a.1)
     (fun a=>a.1≤binds.length∧0≤a.2.1∧a.2.1+aV (binds.drop a.1)≤n1+aV binds∧a.2.1+qH s (binds.drop a.1)=n1+qH s binds∧(a.2.2||sA s (decide (0<lams)||decide (kd=3)) (binds.drop a.1))=(b1||sA s (decide (0<lams)||decide (kd=3)) binds))
     (0,n1,b1) ⟨Nat.zero_le _,by simp only;omega,Int.le_refl _,rfl,rfl⟩ ?_ ?_
    ·exact bI (n0:=H.length) [(H.length,0)] hG hB (by rw[hC]) (hcl.set rfl)
    ·rintro K2 ⟨i,n',b'⟩ ⟨hi,h1,h2,h3,h4⟩ hK2
     simp only at hi h1 h2 h3 h4
     (refine bK ?_;with_reducible repeat' first|exact trivial|(apply aJ.mk<;>intro hb)|apply bN.mk)
     ·have hi':i<binds.length:=by omega
      rw[List.drop_eq_getElem_cons hi'] at h2 h3 h4
      simp only[aV,qH,sA,Cs,Gy] at h2 h3 h4
      have hm:=ea (List.getElem_mem hi')
      have hm2:=binds[i].dw
      have ho:=rK s binds[i].e
      refine gS ?_ rfl (look_ok G hG m binds[i].e _ id g s n' (lams+if kd=3 then 1 else 0) b' (by omega) (kL hlt) h1 (by omega) hlm.1 (by omega)) ?_
      ·exact cw
      intro r H' hH
      rw[jD hlt] at hH
      subst hH
      (refine bK ?_)
      refine hK2 _ _ (i+1,n'+gU s binds[i].e,b'||ma s (decide (0<lams)||decide (kd=3)) binds[i].e) (by simp only;omega) ⟨by simp only;omega,by simp only;omega,by simp only;omega,by simp only;omega,?_⟩ ?_
      ·simp only;rw[← h4,Bool.or_assoc]
      ·have e:decide (0<(lams+if kd=3 then 1 else 0))=(decide (0<lams)||decide (kd=3)):=by
        by_cases h:kd=3<;>simp[h]<;>omega
       rw[e]
       exact bI (n0:=H.length) [(H.length,0)] hG hB (by rw[hC]) (hcl.set rfl)
     ·have hi':i=binds.length:=by omega
      subst hi'
      rw[List.drop_length] at h3 h4
      simp only[qH,sA,Bool.or_false] at h3 h4
      refine hK _ _ (n',b') (by rw[← h4,← h3];simp) ?_
      exact bI (n0:=H.length) [(H.length,0)] hG hB (by rw[hC]) (hcl.set rfl)
   rintro _ rfl
   generalize hn2':n1+(qH s binds:Int)=n2
   generalize hb2':(b1||sA s (decide (0<lams)||decide (kd=3)) binds)=b2
   have ho2:=zN s binds
   (refine CD ?_)
   refine fA (fun a:Int×Bool=>[(0,.ptr id g 0 0),(2,.int .i64 (lams+if kd=3 then 1 else 0)),(4,.ptr H.length 0 0 0)])
    (fun a=>H.set id (.cells g 3 [.agg [.str s,.int .i64 a.1,.bool a.2]])++[.cells 0 8 [.agg [.int .i64 kd,.str nm,.int .i64 nn,.int .i64 op,.list 1 (names.map .str),.list 8 (ag ae),.list 9 (ad binds),.list 12 (af alts)]]]) (fun a=>a=(n2+mZ s (kd=6∧nm=s) alts,b2||mU s (decide (0<lams)||decide (kd=3)) (kd=6∧nm=s) alts)) (fun K hK=>?_) ?_
   ·(refine bK ?_)
    refine aA (fun a:Nat×Int×Bool=>[(0,.ptr id g 0 0),(2,.int .i64 (lams+if kd=3 then 1 else 0)),(4,.ptr H.length 0 0 0),(97,.list 12 (af alts)),(98,.int .i64 alts.length),(99,.int .i64 a.1)])
     (fun a=>H.set id (.cells g 3 [.agg [.str s,.int .i64 a.2.1,.bool a.2.2]])++[.cells 0 8 [.agg [.int .i64 kd,.str nm,.int .i64 nn,.int .i64 op,.list 1 (names.map .str),.list 8 (ag ae),.list 9 (ad binds),.list 12 (af alts)]]]) (fun a=>alts.length - a.1)
     (fun a=>a.1≤alts.length∧0≤a.2.1∧a.2.1+cf (alts.drop a.1)≤n2+cf alts∧a.2.1+mZ s (kd=6∧nm=s) (alts.drop a.1)=n2+mZ s (kd=6∧nm=s) alts∧(a.2.2||mU s (decide (0<lams)||decide (kd=3)) (kd=6∧nm=s) (alts.drop a.1))=(b2||mU s (decide (0<lams)||decide (kd=3)) (kd=6∧nm=s) alts))
     (0,n2,b2) ⟨Nat.zero_le _,by simp only;omega,Int.le_refl _,rfl,rfl⟩ ?_ ?_
    ·exact bI (n0:=H.length) [(H.length,0)] hG hB (by rw[hC]) (hcl.set rfl)
    ·rintro K2 ⟨i,n',b'⟩ ⟨hi,h1,h2,h3,h4⟩ hK2
     simp only at hi h1 h2 h3 h4
     (refine bK ?_;with_reducible repeat' first|exact trivial|(apply aJ.mk<;>intro hb)|apply bN.mk)
     ·have hi':i<alts.length:=by omega
      rw[List.drop_eq_getElem_cons hi'] at h2 h3 h4
      simp only[cf,mZ,mU,Cq,Gx] at h2 h3 h4
      have hm:=dZ (List.getElem_mem hi')
      have hm2:=alts[i].dw
      have hm3:=alts[i].jH
      have ho:=rK s alts[i].body
      refine tE ?_ (gR G alts[i].names s _ (by omega)) ?_
      ·exact cw
      rintro r H' ⟨rfl,rfl⟩
      have hc6:∀ (h:¬ s∈alts[i].names) (h2:¬ (kd=6∧nm=s)),(s∈alts[i].names∨kd=6∧nm=s)=False:=fun h h2=>by simp only[h,h2,or_self]
      have go:∀ (hf:(s∈alts[i].names∨kd=6∧nm=s)=False),n'+gU s alts[i].body+cf (alts.drop (i+1))≤n2+cf alts∧n'+gU s alts[i].body+mZ s (kd=6∧nm=s) (alts.drop (i+1))=n2+mZ s (kd=6∧nm=s) alts∧(b'||ma s (decide (0<lams)||decide (kd=3)) alts[i].body||mU s (decide (0<lams)||decide (kd=3)) (kd=6∧nm=s) (alts.drop (i+1)))=(b2||mU s (decide (0<lams)||decide (kd=3)) (kd=6∧nm=s) alts):=fun hf=>by
       simp only[hf,if_false] at h3 h4
       refine⟨by omega,by omega,?_⟩
       rw[← h4,Bool.or_assoc]
      have stay:∀ (hf:(s∈alts[i].names∨kd=6∧nm=s)=True),n'+cf (alts.drop (i+1))≤n2+cf alts∧n'+mZ s (kd=6∧nm=s) (alts.drop (i+1))=n2+mZ s (kd=6∧nm=s) alts∧(b'||mU s (decide (0<lams)||decide (kd=3)) (kd=6∧nm=s) (alts.drop (i+1)))=(b2||mU s (decide (0<lams)||decide (kd=3)) (kd=6∧nm=s) alts):=fun hf=>by
       simp only[hf,if_true] at h3 h4
       refine⟨by omega,by omega,?_⟩
       rw[← h4];simp
      have e:decide (0<(lams+if kd=3 then 1 else 0))=(decide (0<lams)||decide (kd=3)):=by
       by_cases h:kd=3<;>simp[h]<;>omega
      (refine bK ?_;with_reducible repeat' first|exact trivial|(apply aJ.mk<;>intro hb)|apply bN.mk)
      ·obtain⟨g1,g2,g3⟩:=go (hc6 ‹_› fun h=>hb h.1)
       refine gS ?_ rfl (look_ok G hG m alts[i].body _ id g s n' (lams+if kd=3 then 1 else 0) b' (by omega) (kL hlt) h1 (by omega) hlm.1 (by omega)) ?_
       ·exact cw
       intro r H' hH
       rw[jD hlt,e] at hH
       subst hH
       (refine bK ?_)
       refine hK2 _ _ (i+1,n'+gU s alts[i].body,b'||ma s (decide (0<lams)||decide (kd=3)) alts[i].body) (by simp only;omega) ⟨by simp only;omega,by simp only;omega,g1,g2,g3⟩ ?_
       exact bI (n0:=H.length) [(H.length,0)] hG hB (by rw[hC]) (hcl.set rfl)
      ·obtain⟨g1,g2,g3⟩:=go (hc6 ‹_› fun h=>hb h.2)
       refine gS ?_ rfl (look_ok G hG m alts[i].body _ id g s n' (lams+if kd=3 then 1 else 0) b' (by omega) (kL hlt) h1 (by omega) hlm.1 (by omega)) ?_
       ·exact cw
       intro r H' hH
       rw[jD hlt,e] at hH
       subst hH
       (refine bK ?_)
       refine hK2 _ _ (i+1,n'+gU s alts[i].body,b'||ma s (decide (0<lams)||decide (kd=3)) alts[i].body) (by simp only;omega) ⟨by simp only;omega,by simp only;omega,g1,g2,g3⟩ ?_
       exact bI (n0:=H.length) [(H.length,0)] hG hB (by rw[hC]) (hcl.set rfl)
      ·rename_i q1 q2
       obtain⟨g1,g2,g3⟩:=stay (eq_true (.inr ⟨Decidable.of_not_not q2,Decidable.of_not_not hb⟩))
       refine hK2 _ _ (i+1,n',b') (by simp only;omega) ⟨by simp only;omega,h1,g1,g2,g3⟩ ?_
       exact bI (n0:=H.length) [(H.length,0)] hG hB (by rw[hC]) (hcl.set rfl)
      ·obtain⟨g1,g2,g3⟩:=stay (eq_true (.inl (Decidable.of_not_not hb)))
       refine hK2 _ _ (i+1,n',b') (by simp only;omega) ⟨by simp only;omega,h1,g1,g2,g3⟩ ?_
       exact bI (n0:=H.length) [(H.length,0)] hG hB (by rw[hC]) (hcl.set rfl)
     ·have hi':i=alts.length:=by omega
      subst hi'
      rw[List.drop_length] at h3 h4
      simp only[mZ,mU,Bool.or_false] at h3 h4
      refine hK _ _ (n',b') (by rw[← h4,← h3];simp) ?_
      exact bI (n0:=H.length) [(H.length,0)] hG hB (by rw[hC]) (hcl.set rfl)
   rintro _ rfl
   (refine bK ?_)
   refine Fin.aS (n0:=H.length) hR (by simp) hC' (hcl.set rfl) (.same _ rfl) ?_
   simp only[gU,ma,if_neg hkd,if_neg hno,tl]
   rw[← hn2',← hn1',← hb2',← hb1']
   simp only[Int.natCast_add,Int.add_assoc,Bool.or_assoc]
theorem FO (G:Gl) (hG:ah G) (e:Ex) (s:aD) (H:List av) (hw0:e.wt<549755813888):aq Tryz.prog G 123 [e.sv,.str s] H (fun r H'=>H'=H∧r= .tuple [.int .i64 (gU s e),.bool (ma s false e)]):=by
 refine bP [] Tryz.func123 Tryz.ntmps123 fun C R' hR hC hcl hB hC' X=>?_
 have hC':C.H.length=H.length:=by rw[hC]
 (refine run ?_)
 refine gS ?_ rfl (look_ok G hG _ e _ (H.length+1) 0 s 0 0 false (Nat.le_refl _) (by simp[tl]) (by omega) (by omega) (by omega) (by omega)) ?_
 ·exact cw
 rintro r H' rfl
 simp only[CH,yd,bW,du,List.set_cons_succ,List.set_cons_zero,tl,Int.zero_add,Bool.false_or,show decide ((0:Int)<0)=false from rfl]
 (refine run ?_)
 exact Fin.aS (n0:=H.length) hR (by simp) hC' hcl (.same _ rfl) ⟨rfl,rfl⟩
theorem FC (G:Gl) (hG:ah G) (B:List Bd) (hB0:B.length<137438953472) (l:List Nat) (hl:l.length<137438953472) (hi:∀ i∈l,i<B.length) (H:List av) (bb:Nat) (hb:H[bb]? =some (.cells 0 1 [.list 9 (ad B)])):
 aq Tryz.prog G 119 [gL l,.ptr bb 0 0 0] H (fun r H'=>H'=H∧r= .list 9 (ad (cv B l))):=by
 have hbt:=(List.getElem?_eq_some_iff.1 hb).1
 have hs:=nN H.length l
 have hbc:=aR B
 unfold gL at*
 have hll:(l.map iv).length=l.length:=List.length_map _
 refine bP [4] Tryz.func119 Tryz.ntmps119 fun C R' hR hC hcl hB hC' X=>?_
 have X:=fc aO hb hll
 (refine run ?_)
 refine aA (fun i:Nat=>[(1,.ptr bb 0 0 0),(4,.sl (H.length) 0 0 i),(7,.list 1 (l.map iv)),(8,.int .i64 l.length),(9,.int .i64 (i:Int))]) (fun i=>H++[.cells 0 9 (ad (cv B (l.take i)))]) (fun i=>l.length - i) (fun i=>i≤l.length) 0 (Nat.zero_le _) ?_ ?_
 ·exact bI (n0:=H.length) [(H.length,0)] hG hB hC' hcl
 rintro K i hi2 hK
 have hel:(ad (cv B (l.take i))).length=i:=by rw[aR,cv,List.length_map,List.length_take];omega
 rcases Nat.lt_or_ge i l.length with hlt|hge
 ·have hm:=hi _ (List.getElem_mem hlt)
  have hg1:(l.map iv)[i]? =some (.int .i64 (l[i]:Int)):=by rw[List.getElem?_map,List.getElem?_eq_getElem hlt];rfl
  have hg2:(ad B)[l[i]]? =some (.agg (.str B[l[i]].name::B[l[i]].e.cells)):=by rw[az,List.getElem?_map,List.getElem?_eq_getElem hm,Option.map_some,Bd.sv,Bd.bf]
  have hsn:ad (cv B (l.take i))++[.agg (.str B[l[i]].name::B[l[i]].e.cells)]=ad (cv B (l.take (i+1))):=by
   rw[List.take_succ_eq_append_getElem hlt,cv,cv,List.map_append,az,az,List.map_append]
   congr 1
   have hgd:B.getD l[i] mY=B[l[i]]:=by rw[List.getD,List.getElem?_eq_getElem hm];rfl
   rw[List.map_singleton,List.map_singleton,hgd,Bd.sv,Bd.bf]
  have hx8:=B[l[i]].e.au
  have hxT:=B[l[i]].e.ao
  generalize B[l[i]].e.cells=xe at*
  generalize B[l[i]].name=xn at*
  generalize l[i]=j at*
  have X:=Lb aO hel hsn hb hll hg1 hg2 hbc hm hx8 hxT
  (refine run ?_;with_reducible repeat' first|exact trivial|(apply aJ.mk<;>intro hb)|apply bN.mk)
  refine hK _ _ (i+1) (by omega) (by omega) ?_
  exact bI (n0:=H.length) [(H.length,0)] hG hB hC' hcl
 ·obtain rfl:i=l.length:=by omega
  clear hK
  rw[List.take_length] at*
  have hu:=aK H.length (cv B l)
  have X:=j8 aO hel hb hll (Int.lt_irrefl (l.length:Int))
  (refine run ?_)
  exact Fin.aS (n0:=H.length) hR rfl hC' hcl (bF.sf (by rw[bL];rfl) (by omega) (by simp) (by rw[List.drop_zero,List.take_of_length_le (by rw[hel];exact Nat.le_refl _)]) hu) ⟨rfl,rfl⟩
theorem MA (G:Gl) (hG:ah G) (e:Ex) (s:aD) (H:List av) (hw0:e.wt<549755813888):aq Tryz.prog G 124 [e.sv,.str s] H (fun r H'=>H'=H∧r= .bool (sF s e)):=by
 have c1:=fun H=>FO G hG e s H hw0
 refine bP [] Tryz.func124 Tryz.ntmps124 fun C R' hR hC hcl hB hC' X=>?_
 have hC':C.H.length=H.length:=by rw[hC]
 have hx8:=e.au
 have hxT:=e.ao
 rw[show e.sv= .agg e.cells from rfl] at*
 generalize e.cells=ev at*
 have X:=fc aO hx8 hxT
 (refine run ?_)
 refine Fin.aS (n0:=H.length) hR (by simp) hC' hcl (.same _ rfl) ⟨rfl,?_⟩
 simp only[aC]
 unfold sF
 rw[show decide ((gU s e:Int)=1)=decide (gU s e=1) from decide_eq_decide.2 (by omega)]
theorem xP (G:Gl) (hG:ah G) (body:Ex) (binds:List Bd) (H:List av) (hw:body.wt<137438953472) (hwb:aV binds<137438953472):
 aq Tryz.prog G 96 [body.sv,.list 9 (ad binds)] H (fun r H'=>H'=H∧r=gL ((dB body binds).map Int.toNat)):=by
 have h:=aq.Qx (SV.aT fun a _=>rfl) (List.length_map _) (Mk G hG body binds H hw hwb)
 refine h.mono fun r H' ⟨h1,h2⟩=>⟨h1,h2.trans ?_⟩
 unfold gL
 rw[List.map_map]
 congr 1
 refine List.map_congr_left fun i hi=>?_
 obtain⟨j,rfl,-⟩:=(B5 body binds).2 i hi
 rfl
def Lq (n:Nat) (s:List av×SV) (b:Bd):List av×SV:=if cQ b.e then (s.1++[.cells 0 10 [.agg (s.2:: .str b.name::b.e.cells)]],.ptr (n+s.1.length) 0 0 0) else s
def pA (n:Nat) (kv:SV) (bs:List Bd):List av×SV:=bs.foldl (Lq n) ([],kv)
theorem EF {n:Nat} {P0:List av} (hn:P0.length=n):∀ (bs:List Bd) (L:List av) (kv:SV) (k:Kn),fy (P0++L) kv k→fy (P0++(bs.foldl (Lq n) (L,kv)).1) (bs.foldl (Lq n) (L,kv)).2 (BZ k bs)
 |[],L,kv,k,h=>h
 |b::r,L,kv,k,h=>by
  rw[List.foldl_cons,BZ,List.foldl_cons]
  by_cases hs:cQ b.e=true
  ·rw[show Lq n (L,kv) b=(L++[.cells 0 10 [.agg (kv:: .str b.name::b.e.cells)]],.ptr (n+L.length) 0 0 0) from if_pos hs,if_pos hs]
   refine EF hn r _ _ ((b.name,b.e)::k) ⟨n+L.length,kv,rfl,?_,?_⟩
   ·rw[← List.append_assoc,List.getElem?_append_right (by rw[List.length_append,hn];exact Nat.le_refl _),List.length_append,hn,Nat.sub_self];rfl
   ·rw[← List.append_assoc];exact h.app _
  ·rw[show Lq n (L,kv) b=(L,kv) from if_neg hs,if_neg hs]
   exact EF hn r L kv k h
theorem AM (n:Nat) (kv:SV) (bs:List Bd) (b:Bd):pA n kv (bs++[b])=Lq n (pA n kv bs) b:=by unfold pA;rw[List.foldl_append];rfl
theorem r8 {D l:List Bd} {i:Nat} (hD:D.length=i) (h:i<l.length):(ad (D++l.drop i))[i]? =some (.agg (.str l[i].name::l[i].e.cells)):=by
 rw[az,List.getElem?_map,yP hD h,Option.map_some,Bd.sv,Bd.bf]
theorem pI {D l:List Bd} {i:Nat} (hD:D.length=i) (h:i<l.length) (y:Ex):
 (ad (D++l.drop i)).set i (.agg (.str l[i].name::(y.cells++List.drop 8 l[i].e.cells)))=ad ((D++[.mk l[i].name y])++l.drop (i+1)):=by
 rw[Ex.ij,List.append_nil,az,az,← yR hD h,List.map_set,Bd.sv,Bd.bf];rfl
theorem iE {D l:List Bd} {i:Nat} (hD:D.length=i) (h:i≤l.length):(ad (D++l.drop i)).length=l.length:=by rw[aR,yQ hD h]
def sS (B:List Bd) (gs:List (List Nat)) (b:Ex) (i:Nat):Ex:=lets ((gs.map (cv B)).drop i) b
theorem Mm (B:List Bd) (gs:List (List Nat)) (b:Ex):sS B gs b gs.length=b:=by unfold sS;rw[List.drop_of_length_le (by simp)];rfl
theorem Js {B:List Bd} {gs:List (List Nat)} {b:Ex} {i:Nat} (h:i<gs.length):sS B gs b i=letE (sS B gs b (i+1)) (cv B gs[i]):=by
 unfold sS lets
 rw[List.drop_eq_getElem_cons (by simpa using h),List.foldr_cons,List.getElem_map]
theorem zG {α β:Type} {f:α→Nat→β×Nat} {l:List α} {n i:Nat} {B:List β} {n1:Nat} (h:aG f l n=(B,n1)) (hi:i≤l.length):Fp f l n i=B.take i:=by
 have h1:aG f (l.take i++l.drop i) n=(B,n1):=by rw[List.take_append_drop];exact h
 rw[uZ] at h1
 have h2:B=(aG f (l.take i) n).1++(aG f (l.drop i) (aG f (l.take i) n).2).1:=(congrArg Prod.fst h1).symm
 have h3:(aG f (l.take i) n).1.length=i:=by rw[ek,List.length_take];omega
 unfold Fp
 rw[h2,List.take_left' h3]
theorem EE {n:Nat} {kv:SV} {bs:List Bd} {t:aD} {R:Ex} (h:cQ R=true):pA n kv (bs++[.mk t R])=((pA n kv bs).1++[.cells 0 10 [.agg ((pA n kv bs).2:: .str t::R.cells)]],.ptr (n+(pA n kv bs).1.length) 0 0 0):=by
 rw[AM];exact if_pos h
theorem HW {n:Nat} {kv:SV} {bs:List Bd} {t:aD} {R:Ex} (h:¬ cQ R=true):pA n kv (bs++[.mk t R])=pA n kv bs:=by
 rw[AM];exact if_neg h
theorem Ji (G:Gl) (hG:ah G) (F:Ex→Kn→Nat→Ex×Nat) (s:Ex) (binds:List Bd) (n:Nat) (k:Kn) (kv:SV)
 (hbl:binds.length<131072) (sb g0 n0:Nat) (Q:Nat→List av) (hQ:QH Q sb g0 n0) (hqc:closed (Q n)→∀ nx,closed (Q nx)) (hkn:∀ nx L,fy (Q nx++L) kv k)
 (hT:∀ (i:Nat) (h:i<binds.length),M3 G Q sb g0 binds[i].e k (fC (kW fun x n=>F x k n) binds n i) (F binds[i].e k (fC (kW fun x n=>F x k n) binds n i)))
 (B:List Bd) (n1:Nat) (hBn:aG (kW fun x n=>F x k n) binds n=(B,n1)) (T:Ex×Nat) (hTe:F s (BZ k B) n1=T) (hTB:M3 G Q sb g0 s (BZ k B) n1 T)
 {cs:List Cn} {P:aD→Prop} (hgB:∀ b∈B,Gd cs P b.e∧b.e.wt<137438953472) (hwb:aV B<137438953472) (hwT:T.1.wt<137438953472):
 aq Tryz.prog G 89 [.ptr sb g0 0 0,.agg [.int .i64 5,.str [],.int .i64 0,.int .i64 0,.list 1 [],.list 8 [.agg s.cells],.list 9 (ad binds),.list 12 []],kv] (Q n) (fun r H'=>H'=Q T.2∧r=(B4 B T.1).sv):=by
 have hcln:=fun H=>wS G hG binds H (by omega)
 have hel:=aR binds
 have hkf:=(hkn n []).form
 rw[List.append_nil,hQ.len] at hkf
 have hku:kv.under n0=true:=by
  rcases hkf with rfl|⟨b,rfl,hb⟩
  ·rfl
  ·simp only[SV.under,decide_eq_true_eq];exact hb
 have hsu:=s.aw n0
 have hqn:=hQ.len n
 generalize hHH:Q n=H at*
 refine bP [] Tryz.func89 Tryz.ntmps89 fun C R' hR hC hcl hB hC' X=>?_
 have hcls:=hqc hcl
 subst hHH
 rw[hqn] at hC'
 have hlenQ:=hQ.len
 have hsb:sb<n0:=hQ.lt
 have hx20:=hQ.get
 have hx21:=hlenQ
 have hx22:∀ nx L,(Q nx++L)[n0]? =L[0]? :=fun nx L=>by rw[← hlenQ nx];exact bL _ _
 have hx23:∀ nx L k,(Q nx++L)[n0+k]? =L[k]? :=fun nx L k=>by rw[← hlenQ nx];exact aH _ _ _
 have hx24:∀ nx L x,(Q nx++L).set n0 x=Q nx++L.set 0 x:=fun nx L x=>by rw[← hlenQ nx];exact du _ _ _
 have hx25:∀ nx L k x,(Q nx++L).set (n0+k) x=Q nx++L.set k x:=fun nx L k x=>by rw[← hlenQ nx];exact bW _ _ _ _
 have hs8:=s.au
 have hsT:=s.ao
 generalize hxs:s.cells=xs at*
 have X:=eu aO hx20 hx21 hx22 hx23 hx24 hx25
 (refine run ?_)
 refine br (hcln _) ?_
 rintro r H' ⟨rfl,rfl⟩
 simp only[List.append_assoc,List.cons_append,List.nil_append,List.length_append,List.length_cons,List.length_nil,List.length_set,X,Nat.reduceAdd]
 (refine run ?_)
 have hmd:∀ i,i≤binds.length→Fp (kW fun x n=>F x k n) binds n i=B.take i:=fun i hi=>zG hBn hi
 refine aA (fun i:Nat=>[(0,.ptr sb g0 0 0),(4,.ptr n0 0 0 0),(6,.ptr (n0+1) 0 0 0),(7,.ptr (n0+3) 0 0 0),(2,kv),(8,(pA (n0+4) kv (B.take i)).2),(25,.int .i64 binds.length),(26,.int .i64 (i:Int))])
  (fun i=>Q (fC (kW fun x n=>F x k n) binds n i)++(.cells 0 8 [.agg [.int .i64 5,.str [],.int .i64 0,.int .i64 0,.list 1 [],.list 8 [.agg xs],.list 9 (ad binds),.list 12 []]]:: .cells 0 8 [.agg [.int .i64 0,.str [],.int .i64 0,.int .i64 0,.list 1 [],.list 8 [],.list 9 [],.list 12 []]]:: .cells 0 9 (ad (B.take i++binds.drop i)):: .cells 0 1 [.sl (n0+2) 0 0 binds.length]::(pA (n0+4) kv (B.take i)).1)) (fun i=>binds.length - i) (fun i=>i≤binds.length) 0 (Nat.zero_le _) ?_ ?_
 ·rw[qD.2,List.take_zero,List.nil_append,List.drop_zero]
  exact Wk.sub (by simp[aW,look,pA])
 rintro K i hi hK
 have hD:(B.take i).length=i:=by rw[← hmd i hi];exact DS hi
 have hlc:=iE hD hi
 have hka:∀ (nx:Nat) (b0 b1 b2 b3:av),fy (Q nx++(b0::b1::b2::b3::(pA (n0+4) kv (B.take i)).1)) (pA (n0+4) kv (B.take i)).2 (BZ k (B.take i)):=fun nx b0 b1 b2 b3=>by
  have h0:=EF (n:=n0+4) (P0:=Q nx++[b0,b1,b2,b3]) (by rw[List.length_append,hlenQ];rfl) (B.take i) [] kv k (by rw[List.append_nil];exact hkn nx _)
  rw[List.append_assoc] at h0
  exact h0
 rcases Nat.lt_or_ge i binds.length with hlt|hge
 ·have hgi:=r8 hD hlt
  obtain⟨hsD,hsN⟩:=tt (f:=(kW fun x n=>F x k n)) (n:=n) hlt
  rw[hmd i hi,hmd (i+1) hlt] at hsD
  have hTi:=hT i hlt
  unfold M3 at hTi
  have hst:=pI hD hlt (F binds[i].e k (fC (kW fun x n=>F x k n) binds n i)).1
  have hsT:(kW (fun x n=>F x k n) binds[i] (fC (kW fun x n=>F x k n) binds n i)).1= .mk binds[i].name (F binds[i].e k (fC (kW fun x n=>F x k n) binds n i)).1:=rfl
  have hsT2:(kW (fun x n=>F x k n) binds[i] (fC (kW fun x n=>F x k n) binds n i)).2=(F binds[i].e k (fC (kW fun x n=>F x k n) binds n i)).2:=rfl
  rw[hsT2] at hsN
  rw[hsT] at hsD
  have hr8:=(F binds[i].e k (fC (kW fun x n=>F x k n) binds n i)).1.au
  have hrT:=(F binds[i].e k (fC (kW fun x n=>F x k n) binds n i)).1.ao
  have hgR:=hgB (.mk binds[i].name (F binds[i].e k (fC (kW fun x n=>F x k n) binds n i)).1) (List.mem_of_mem_take (i:=i+1) (by rw[hsD];exact List.mem_append_right _ (List.mem_singleton_self _)))
  rw[show(F binds[i].e k (fC (kW fun x n=>F x k n) binds n i)).1.sv= .agg (F binds[i].e k (fC (kW fun x n=>F x k n) binds n i)).1.cells from rfl] at hTi
  generalize hRR:F binds[i].e k (fC (kW fun x n=>F x k n) binds n i)=RR at*
  obtain⟨R1,nx3⟩:=RR
  dsimp only[Bd.e] at hst hsD hsN hr8 hrT hTi hgR
  have hsub:R1.ae.length<1125899906842624:=by
   have:=hgR.2
   have:=iS R1.ae
   cases R1
   simp only[Ex.wt,Ex.ae] at*
   omega
  have c3:=fun H=>uQ G hG R1 hsub H
  rw[show R1.sv= .agg R1.cells from rfl] at c3
  rw[← hsD] at hst
  generalize hA0:binds[i]=b at*
  obtain⟨bn,be⟩:=b
  dsimp only[Bd.name,Bd.e] at*
  have hx8:=be.au
  have hxT:=be.ao
  have hxD:=be.ij
  rw[show be.sv= .agg be.cells from rfl] at hTi
  have hws:=fun kv' H hh=>ot G hG kv' bn R1 H hh
  rw[show R1.sv= .agg R1.cells from rfl] at hws
  generalize be.cells=xb at*
  generalize hxr:R1.cells=xr at*
  clear hRR hA0 hsT2 hsT
  generalize hch0:(pA (n0+4) kv (B.take i)).1=ch at*
  generalize hiv:(pA (n0+4) kv (B.take i)).2=kw at*
  have c1:=hTi kv _ (hkn _ (.cells 0 8 [.agg [.int .i64 5,.str [],.int .i64 0,.int .i64 0,.list 1 [],.list 8 [.agg xs],.list 9 (ad binds),.list 12 []]]:: .cells 0 8 [.agg [.int .i64 0,.str [],.int .i64 0,.int .i64 0,.list 1 [],.list 8 [],.list 9 [],.list 12 []]]:: .cells 0 9 (ad (B.take i++binds.drop i)):: .cells 0 1 [.sl (n0+2) 0 0 binds.length]::ch))
  have X:=FW (eu aO hx20 hx21 hx22 hx23 hx24 hx25) hlc hgi hst hr8 hrT hx8 hxT
  have hgi2:(ad (B.take (i+1)++binds.drop (i+1)))[i]? =some (.agg (.str bn::xr)):=by rw[← hst,List.getElem?_set_self (by rw[hlc];exact hlt),hxD,List.append_nil]
  have hlc2:(ad (B.take (i+1)++binds.drop (i+1))).length=binds.length:=by rw[← hst,List.length_set,hlc]
  have X:=fc X hgi2 hlc2
  by_cases hsh:cQ R1=true
  ·rw[hsh] at c3
   have hch:=EE (n:=n0+4) (kv:=kv) (bs:=B.take i) (t:=bn) hsh
   rw[← hsD,hxr,hch0,hiv] at hch
   have hf:=(hka nx3 (.cells 0 8 [.agg [.int .i64 5,.str [],.int .i64 0,.int .i64 0,.list 1 [],.list 8 [.agg xs],.list 9 (ad binds),.list 12 []]]) (.cells 0 8 [.agg [.int .i64 0,.str [],.int .i64 0,.int .i64 0,.list 1 [],.list 8 [],.list 9 [],.list 12 []]]) (.cells 0 9 (ad (B.take (i+1)++binds.drop (i+1)))) (.cells 0 1 [.sl (n0+2) 0 0 binds.length])).form
   have c2:=hws kw _ hf
   rw[show(Q nx3++(.cells 0 8 [.agg [.int .i64 5,.str [],.int .i64 0,.int .i64 0,.list 1 [],.list 8 [.agg xs],.list 9 (ad binds),.list 12 []]]:: .cells 0 8 [.agg [.int .i64 0,.str [],.int .i64 0,.int .i64 0,.list 1 [],.list 8 [],.list 9 [],.list 12 []]]:: .cells 0 9 (ad (B.take (i+1)++binds.drop (i+1))):: .cells 0 1 [.sl (n0+2) 0 0 binds.length]::ch)).length=n0+4+ch.length by simp only[List.length_append,hlenQ,List.length_cons];omega] at c2
   (refine run ?_;with_reducible repeat' first|exact trivial|(apply aJ.mk<;>intro hb)|apply bN.mk)
   refine hK _ _ (i+1) (by omega) (by omega) ?_
   rw[hsN,hch]
   simp only[List.append_assoc,List.cons_append]
   refine Wk.sub ?_
   simp[aW,look]
   omega
  ·have hsf:cQ R1=false:=by simpa using hsh
   rw[hsf] at c3
   have hch:=HW (n:=n0+4) (kv:=kv) (bs:=B.take i) (t:=bn) hsh
   rw[← hsD] at hch
   (refine run ?_;with_reducible repeat' first|exact trivial|(apply aJ.mk<;>intro hb)|apply bN.mk)
   refine hK _ _ (i+1) (by omega) (by omega) ?_
   rw[hsN,hch,hch0,hiv]
   exact Wk.sub (by simp[aW,look])
 obtain rfl:i=binds.length:=by omega
 clear hK
 have hBl:B.length=binds.length:=by have:=ek (kW fun x n=>F x k n) binds n;rw[hBn] at this;exact this
 have hmn:fC (kW fun x n=>F x k n) binds n binds.length=n1:=by rw[ve.2,hBn]
 rw[hmn]
 have hBt:B.take binds.length=B:=List.take_of_length_le (by omega)
 simp only[hBt] at hka
 rw[hBt,List.drop_length,List.append_nil]
 clear hT hmd hD hBt hBn hmn hlc
 generalize hch0:(pA (n0+4) kv B).1=ch at*
 generalize hiv:(pA (n0+4) kv B).2=kw at*
 have hbu:=aK n0 B
 have hbc:=aR B
 obtain⟨T,n2⟩:=T
 dsimp only at*
 have hr8:=T.au
 have hrT:=T.ao
 have hru:=T.aw n0
 have c1:=hTB kw _ (hka n1 (.cells 0 8 [.agg [.int .i64 5,.str [],.int .i64 0,.int .i64 0,.list 1 [],.list 8 [.agg xs],.list 9 (ad binds),.list 12 []]]) (.cells 0 8 [.agg [.int .i64 0,.str [],.int .i64 0,.int .i64 0,.list 1 [],.list 8 [],.list 9 [],.list 12 []]]) (.cells 0 9 (ad B)) (.cells 0 1 [.sl (n0+2) 0 0 binds.length]))
 rw[show T.sv= .agg T.cells from rfl,show s.sv= .agg s.cells from rfl,hxs] at c1
 generalize hxT:T.cells=xT at*
 have hirr:=Int.lt_irrefl (binds.length:Int)
 have X:=oD (eu aO hx20 hx21 hx22 hx23 hx24 hx25) hirr hs8 hsT hr8 hrT
 (refine run ?_)
 have hga:∀ (b0 b1 b2 b3 x y:av),(b0::b1::b2::b3::(ch++[x,y]))[ch.length+4]? =some x:=fun b0 b1 b2 b3 x y=>by
  simp only[List.getElem?_cons_succ]
  rw[List.getElem?_append_right (Nat.le_refl _),Nat.sub_self];rfl
 have hgb:∀ (b0 b1 b2 b3 x y:av),(b0::b1::b2::b3::(ch++[x,y]))[ch.length+5]? =some y:=fun b0 b1 b2 b3 x y=>by
  simp only[List.getElem?_cons_succ]
  rw[List.getElem?_append_right (Nat.le_succ _),Nat.succ_sub (Nat.le_refl _),Nat.sub_self];rfl
 refine rB [(4,.ptr n0 0 0 0),(6,.ptr (n0+1) 0 0 0),(7,.ptr (n0+2) 0 0 0),(10,.ptr (n0+3) 0 0 0),(11,.ptr (n0+4) 0 0 0),(68,.agg xT),(69,.list 9 (ad B))]
  (Q n2++[.cells 0 8 [.agg [.int .i64 5,.str [],.int .i64 0,.int .i64 0,.list 1 [],.list 8 [.agg xs],.list 9 (ad binds),.list 12 []]],.cells 0 8 [.agg [.int .i64 0,.str [],.int .i64 0,.int .i64 0,.list 1 [],.list 8 [],.list 9 [],.list 12 []]],.cells 0 1 [.list 9 (ad B)],.cells 0 8 [.agg xT],.cells 0 1 [.fn (.func 119) [] [.ptr (n0+2) 0 0 0]]])
  (bI (n0:=n0) [(n0,0),(n0+1,0),(n0+3,0),(n0+(ch.length+4),0),(n0+(ch.length+5),0)] hG hB hC' (hcls _) (hn:=hlenQ _) (hd:=ra n0 [0,1,3,ch.length+4,ch.length+5] (by simp)) (hk:=by
   refine bH.c (by rw[hx22];rfl) (Nat.le_refl _) (Nat.zero_le _) ?_ (bH.c (by rw[hx23];rfl) (by omega) (Nat.zero_le _) ?_ (bH.c (by rw[hx23];rfl) (by omega) (Nat.zero_le _) ?_ (bH.c (by rw[hx23,hga]) (by omega) (Nat.zero_le _) ?_ (bH.c (by rw[hx23,hgb]) (by omega) (Nat.zero_le _) ?_ .nil))))
   ·exact gi
   ·exact gi
   ·exact .cons _ _ _ _ (bF.sf (by rw[hx23];rfl) (by omega) (by simp) (by rw[List.drop_zero,List.take_of_length_le (by omega)]) hbu) .nil
   ·exact .cons _ _ _ _ (.same _ (by simp only[SV.under];exact hru)) .nil
   ·exact .cons _ _ _ _ (.fn _ _ _ _ _ .nil (.cons _ _ _ _ (bF.kp 2 rfl (by rw[hx23];rfl) (Nat.le_refl _) rfl rfl) .nil)) .nil) (he:=by
   refine⟨⟨_,rfl,?_⟩,⟨_,rfl,?_⟩,⟨_,rfl,?_⟩,⟨_,rfl,?_⟩,⟨_,rfl,?_⟩,⟨_,rfl,?_⟩,⟨_,rfl,?_⟩,trivial⟩
   ·exact bF.kp 0 rfl (by rw[hx22];rfl) (Nat.le_refl _) rfl rfl
   ·exact bF.kp 1 rfl (by rw[hx23];rfl) (Nat.le_refl _) rfl rfl
   ·exact bF.kp 2 rfl (by rw[hx23];rfl) (Nat.le_refl _) rfl rfl
   ·exact bF.kp 3 rfl (by rw[hx23,hga]) (Nat.le_refl _) rfl rfl
   ·exact bF.kp 4 rfl (by rw[hx23,hgb]) (Nat.le_refl _) rfl rfl
   ·exact .same _ (by simp only[SV.under];exact hru)
   ·exact bF.sf (by rw[hx23];rfl) (by omega) (by simp) (by rw[List.drop_zero,List.take_of_length_le (by omega)]) hbu)) ?_
 clear hka c1 hga hgb hTB
 have c1:=fun H=>xP G hG T B H hwT hwb
 rw[show T.sv= .agg T.cells from rfl,hxT] at c1
 obtain⟨-,hl2,-⟩:=mW T B
 have hll:((dB T B).map Int.toNat).length=(dB T B).length:=List.length_map _
 unfold B4 at hR
 rw[← hll] at hR
 clear hll
 generalize hLV:(dB T B).map Int.toNat=LV at*
 have hlm:(LV.map iv).length=LV.length:=List.length_map _
 have hpk:=fun l hl hi=>FC G hG B (by omega) l hl hi ((Q n2++[.cells 0 8 [.agg [.int .i64 5,.str [],.int .i64 0,.int .i64 0,.list 1 [],.list 8 [.agg xs],.list 9 (ad binds),.list 12 []]],.cells 0 8 [.agg [.int .i64 0,.str [],.int .i64 0,.int .i64 0,.list 1 [],.list 8 [],.list 9 [],.list 12 []]],.cells 0 1 [.list 9 (ad B)],.cells 0 8 [.agg xT],.cells 0 1 [.fn (.func 119) [] [.ptr (n0+2) 0 0 0]]])) (n0+2) (by rw[hx23];rfl)
 have hlt:=fun bs e H=>dr G hG bs e H
 have hTs:T.sv= .agg xT:=by rw[← hxT];rfl
 unfold gL at c1
 by_cases hz:LV.length=0
 ·rw[if_pos hz,hTs] at hR
  have hz2:(LV.length:Int)=0:=by omega
  have X:=j8 (eu aO hx20 hx21 hx22 hx23 hx24 hx25) hr8 hrT hlm hz2
  (refine run ?_)
  exact Fin.aS (n0:=n0) hR (hlenQ _) hC' (hcls _) (.same _ (by simp only[aC,SV.under];exact hru)) ⟨rfl,rfl⟩
 rw[if_neg hz] at hR
 have hz2:¬ (LV.length:Int)=0:=by omega
 by_cases hlv:LV.length<B.length
 ·rw[if_pos hlv] at hR
  have hlv2:(LV.length:Int)<(B.length:Int):=by omega
  have v1:=aY.of (first:=[]) (args:=[gL LV]) (cap:=[.ptr (n0+2) 0 0 0]) (hpk LV (by omega) hl2)
  have c2:=hlt (cv B LV) T
  rw[hTs] at c2
  unfold gL at v1
  have hq8:=(letE T (cv B LV)).au
  have hqT:=(letE T (cv B LV)).ao
  have hqu:=(letE T (cv B LV)).aw n0
  rw[show(letE T (cv B LV)).sv= .agg (letE T (cv B LV)).cells from rfl] at c2 hR
  generalize (letE T (cv B LV)).cells=xr at*
  have X:=C3 (eu aO hx20 hx21 hx22 hx23 hx24 hx25) hr8 hrT hlm hz2 hlv2 hbc hq8 hqT
  (refine run ?_)
  exact Fin.aS (n0:=n0) hR (hlenQ _) hC' (hcls _) (.same _ (by simp only[aC,SV.under];exact hqu)) ⟨rfl,rfl⟩
 rw[if_neg hlv] at hR
 have hlv2:¬ (LV.length:Int)<(B.length:Int):=by omega
 have c3:=fun H=>Dc G hG B (by omega) (fun b hb=>by have:=(hgB b hb).2;omega) H
 obtain⟨hg0,hg2,hg4⟩:=mK B
 have hgl:=uW _ hg4
 have hgf:=kl hg0 hg2
 generalize hgs:gj B.length (jz B)=gs at*
 have hgm:(gs.map gL).length=gs.length:=List.length_map _
 by_cases hg1:1<gs.length
 ·rw[if_pos hg1] at hR
  have hg3:(1:Int)<(gs.length:Int):=by omega
  have c2:=fun H=>HK G hG gs H
  have X:=C3 (eu aO hx20 hx21 hx22 hx23 hx24 hx25) hr8 hrT hlm hz2 hlv2 hbc hgm hg3
  (refine run ?_)
  refine fj iD (σ:=Nat) (ξ:=Nat×List Nat) (fun i=>Q n2++[.cells 0 8 [.agg [.int .i64 5,.str [],.int .i64 0,.int .i64 0,.list 1 [],.list 8 [.agg xs],.list 9 (ad binds),.list 12 []]],.cells 0 8 [.agg [.int .i64 0,.str [],.int .i64 0,.int .i64 0,.list 1 [],.list 8 [],.list 9 [],.list 12 []]],.cells 0 1 [.list 9 (ad B)],.cells 0 8 [.agg (sS B gs T i).cells],.cells 0 1 [.fn (.func 119) [] [.ptr (n0+2) 0 0 0]]]) (n0+5) (fun s=>by simp[hlenQ]) gs.length
   [(4,.ptr n0 0 0 0),(6,.ptr (n0+1) 0 0 0),(7,.ptr (n0+2) 0 0 0),(10,.ptr (n0+3) 0 0 0),(11,.ptr (n0+4) 0 0 0),(93,.fn (.func 157) [] [.gM (.list 1 (gs.map gL))])] (fun x=>[.int .i64 x.1,gL x.2]) (fun s x=>s=x.1+1∧gs[x.1]? =some x.2) (fun s x=>x.1) (fun s=>s=0)
   (fun x=>[(95,gL x.2),(94,.int .i64 x.1),(4,.ptr n0 0 0 0),(6,.ptr (n0+1) 0 0 0),(7,.ptr (n0+2) 0 0 0),(10,.ptr (n0+3) 0 0 0),(11,.ptr (n0+4) 0 0 0),(93,.fn (.func 157) [] [.gM (.list 1 (gs.map gL))])]) rfl rfl (fun x=>rfl) (fun x=>rfl) ?_ ?_ ?_ ?_
  ·rw[Mm,hxT]
   exact Wk.sub (by simp[aW,look])
  ·intro G' LO hGl hLO hy
   have:=F0 G' gs (by omega) (n0+5) (fun i=>(Q n2++[.cells 0 8 [.agg [.int .i64 5,.str [],.int .i64 0,.int .i64 0,.list 1 [],.list 8 [.agg xs],.list 9 (ad binds),.list 12 []]],.cells 0 8 [.agg [.int .i64 0,.str [],.int .i64 0,.int .i64 0,.list 1 [],.list 8 [],.list 9 [],.list 12 []]],.cells 0 1 [.list 9 (ad B)],.cells 0 8 [.agg (sS B gs T i).cells],.cells 0 1 [.fn (.func 119) [] [.ptr (n0+2) 0 0 0]]])++[LO]) (fun i hi Y=>by
    have:=hy (i+1) (i,gs[i]) Y ⟨rfl,List.getElem?_eq_getElem hi⟩
    simpa only[List.append_assoc,List.cons_append,List.nil_append] using this)
   exact this.mono fun r H' h=>⟨0,rfl,h⟩
  ·rintro G' C' ρ' s2 ⟨j,g⟩ Y LO LB K1 K hGl hB' hCH hcl' hLO hLB ⟨hs,hb⟩ hK1 hK
   subst hs
   dsimp only at hb
   obtain⟨hj,hgj⟩:=List.getElem?_eq_some_iff.1 hb
   have hst:=Js (B:=B) (b:=T) hj
   rw[hgj] at hst
   have hG':ah G':=by unfold ah;rw[hGl];exact hG
   have hgB2:g.length≤B.length:=by
    have h1:=(List.sublist_flatten_of_mem (List.mem_of_getElem? hb)).length_le
    omega
   have hgi:∀ i∈g,i<B.length:=fun i hi=>hg2 i (List.mem_flatten.2 ⟨g,List.mem_of_getElem? hb,hi⟩)
   have c1:=fun H=>dr G' hG' (cv B g) (sS B gs T (j+1)) H
   try dsimp only at hst
   rw[← hst] at c1
   have hp8:=(sS B gs T (j+1)).au
   have hpT:=(sS B gs T (j+1)).ao
   have hq8:=(sS B gs T j).au
   have hqT:=(sS B gs T j).ao
   rw[show(sS B gs T (j+1)).sv= .agg (sS B gs T (j+1)).cells from rfl,show(sS B gs T j).sv= .agg (sS B gs T j).cells from rfl] at c1
   dsimp only at hK hK1
   simp only[List.append_assoc,List.cons_append,List.nil_append] at hcl' hCH hK ⊢
   generalize (sS B gs T (j+1)).cells=xp at*
   generalize (sS B gs T j).cells=xq at*
   clear c2 c3
   have v1:=aY.of (first:=[]) (args:=[gL g]) (cap:=[.ptr (n0+2) 0 0 0]) (FC G' hG' B (by omega) g (by omega) hgi (Q n2++(.cells 0 8 [.agg [.int .i64 5,.str [],.int .i64 0,.int .i64 0,.list 1 [],.list 8 [.agg xs],.list 9 (ad binds),.list 12 []]]:: .cells 0 8 [.agg [.int .i64 0,.str [],.int .i64 0,.int .i64 0,.list 1 [],.list 8 [],.list 9 [],.list 12 []]]:: .cells 0 1 [.list 9 (ad B)]:: .cells 0 8 [.agg xp]:: .cells 0 1 [.fn (.func 119) [] [.ptr (n0+2) 0 0 0]]::LB::Y)) (n0+2) (by rw[hx23];rfl))
   have X:=aO
   (refine run ?_)
   refine hK1 _ _ (by rw[hx23];rfl) ?_
   simp only[hx25,List.set_cons_succ,List.set_cons_zero]
   have hpp:xp++[]=xp:=List.append_nil _
   have X:=oD (eu aO hx20 hx21 hx22 hx23 hx24 hx25) hpp hp8 hpT hq8 hqT
   (refine run ?_)
   all_goals exact hK _ _ (Wk.sub trivial)
  ·intro s2 LO hs hLO
   subst hs
   simp only[List.append_assoc,List.cons_append,List.nil_append]
   rw[show lets (gs.map (cv B)) T=sS B gs T 0 from rfl] at hR
   have hq8:=(sS B gs T 0).au
   have hqT:=(sS B gs T 0).ao
   have hqu:=(sS B gs T 0).aw n0
   rw[show(sS B gs T 0).sv= .agg (sS B gs T 0).cells from rfl] at hR
   generalize (sS B gs T 0).cells=xr at*
   have X:=fc (eu aO hx20 hx21 hx22 hx23 hx24 hx25) hq8 hqT
   (refine run ?_)
   exact Fin.aS (n0:=n0) hR (hlenQ _) hC' (hcls _) (.same _ (by simp only[aC,SV.under];exact hqu)) ⟨rfl,rfl⟩
 rw[if_neg hg1] at hR
 have hg3:¬ (1:Int)<(gs.length:Int):=by omega
 have hTb:(letE T B).sv= .agg (letE T B).cells:=rfl
 have hB8:=(letE T B).au
 have hBT:=(letE T B).ao
 have hBu:=(letE T B).aw n0
 have hlB:=fun H=>hlt B T H
 rw[hTs,hTb] at hlB
 by_cases hb1:B.length=1
 rotate_left
 ·rw[if_neg hb1,hTb] at hR
  have hb2:¬ (B.length:Int)=1:=by omega
  have c2:=hlB
  generalize (letE T B).cells=xr at*
  have X:=ND (eu aO hx20 hx21 hx22 hx23 hx24 hx25) hr8 hrT hlm hz2 hlv2 hbc hgm hg3 hb2 hB8 hBT
  (refine run ?_)
  exact Fin.aS (n0:=n0) hR (hlenQ _) hC' (hcls _) (.same _ (by simp only[aC,SV.under];exact hBu)) ⟨rfl,rfl⟩
 rw[if_pos hb1] at hR
 obtain⟨b,rfl⟩:=List.length_eq_one_iff.1 hb1
 obtain⟨x,r⟩:=b
 obtain⟨hgr,hwr⟩:=hgB _ (List.mem_singleton_self _)
 have hb2:((List.length [Bd.mk x r]:Nat):Int)=1:=rfl
 have hbe:ad [.mk x r]=[.agg (.str x::r.cells)]:=by rw[fe];simp[az]
 simp only[List.getD_cons_zero,Bd.name,Bd.e,List.length_singleton] at hR hgr hwr hz2 hlv2 hbc
 simp only[hbe] at c1 c3 hbu hbc hlB ⊢
 have hvu:=r.aw n0
 obtain⟨rk,rn,rnn,rop,rns,rss,rbs,ras,hr0⟩:∃ rk rn rnn rop rns rss rbs ras,r= .mk rk rn rnn rop rns rss rbs ras:=by cases r;exact⟨_,_,_,_,_,_,_,_,rfl⟩
 have hrc:r.cells=[.int .i64 rk,.str rn,.int .i64 rnn,.int .i64 rop,.list 1 (rns.map .str),.list 8 (ag rss),.list 9 (ad rbs),.list 12 (af ras)]:=by rw[hr0];rfl
 have hrk:r.kind=rk:=by rw[hr0];rfl
 have hrs:r.sv= .agg r.cells:=rfl
 have hu1:=fun H=>FO G hG r x H (by omega)
 have hu2:=fun H=>xH G hG r H
 have hu3:=fun H=>MA G hG T x H (by omega)
 have hu4:=fun H=>gN G hG x r T.wt T H (Nat.le_refl _) (by omega)
 rw[show dK x r T.wt T=cS x r T from rfl] at hu4
 rw[hTs] at hu3 hu4
 have hP8:=(cS x r T).au
 have hPT:=(cS x r T).ao
 have hPu:=(cS x r T).aw n0
 have hPs:(cS x r T).sv= .agg (cS x r T).cells:=rfl
 rw[hrs] at hu1 hu2 hu4
 simp only[hrc] at hu1 hu2 hu4 hvu c1 c3 hlB hbc hbe ⊢
 have X:=wh (eu aO hx20 hx21 hx22 hx23 hx24 hx25) hr8 hrT hlm hz2 hlv2 hbc hgm hg3 hb2
 (refine run ?_)
 clear c1 c3
 have c1:=hu1
 have c2:=hu2
 have c3:=hu3
 rw[hPs] at hu4
 have X:=fc (eu aO hx20 hx21 hx22 hx23 hx24 hx25) hr8 hrT
 by_cases ho:gU x r=0∧(bU r=true∨sF x T=true)
 ·rw[if_pos ho,hPs] at hR
  have c4:=hu4
  have ho1:(gU x r:Int)=0:=by omega
  generalize (cS x r T).cells=xr at*
  rcases ho.2 with ha|ha
  ·rw[ha] at c2
   have X:=iY X ho1 hP8 hPT
   (refine run ?_)
   exact Fin.aS (n0:=n0) hR (hlenQ _) hC' (hcls _) (.same _ (by simp only[aC,SV.under];exact hPu)) ⟨rfl,rfl⟩
  ·rw[ha] at c3
   cases hat:bU r with
   |true=>
    rw[hat] at c2
    have X:=iY X ho1 hP8 hPT
    (refine run ?_)
    exact Fin.aS (n0:=n0) hR (hlenQ _) hC' (hcls _) (.same _ (by simp only[aC,SV.under];exact hPu)) ⟨rfl,rfl⟩
   |false=>
    rw[hat] at c2
    have X:=iY X ho1 hP8 hPT
    (refine run ?_)
    exact Fin.aS (n0:=n0) hR (hlenQ _) hC' (hcls _) (.same _ (by simp only[aC,SV.under];exact hPu)) ⟨rfl,rfl⟩
 rw[if_neg ho] at hR
 clear hu4 hu3 hu2 hu1
 have hcond:∃ a o u:Bool,a=bU r∧o=sF x T∧u=decide (gU x r=0):=⟨_,_,_,rfl,rfl,rfl⟩
 have hnot:gU x r=0→bU r=false∧sF x T=false:=fun h0=>by
  constructor
  ·cases h:bU r
   ·rfl
   ·exact absurd ⟨h0,.inl h⟩ ho
  ·cases h:sF x T
   ·rfl
   ·exact absurd ⟨h0,.inr h⟩ ho
 clear hcond
 have hcnt:(gU x r:Int)=0→gU x r=0:=fun h=>by omega
 by_cases h5:r.kind=5∧gl (eH r.ae)=true
 ·rw[if_pos h5] at hR
  have hrf:=jj hgr h5.1
  have hival:=h5.2
  generalize eH r.ae=u at*
  generalize r.binds=rb at*
  have hr1:=hr0
  rw[hrf] at hr1
  obtain⟨rfl,rfl,rfl,rfl,rfl,rfl,rfl,rfl⟩:=Ex.mk.inj hr1
  have hq1:=fun H=>hlt [.mk x u] T H
  have hq2:=fun H=>hlt rb (letE T [.mk x u]) H
  have hq3:=fun H=>uR G hG u H
  rw[hival] at hq3
  rw[hTs,fe,show ad ([]:List Bd)=[] by simp[az]] at hq1
  have hS8:=(letE T [.mk x u]).au
  have hST:=(letE T [.mk x u]).ao
  have hN8:=(letE (letE T [.mk x u]) rb).au
  have hNT:=(letE (letE T [.mk x u]) rb).ao
  have hNu:=(letE (letE T [.mk x u]) rb).aw n0
  rw[show(letE T [.mk x u]).sv= .agg (letE T [.mk x u]).cells from rfl] at hq1 hq2
  rw[show(letE (letE T [.mk x u]) rb).sv= .agg (letE (letE T [.mk x u]) rb).cells from rfl] at hq2 hR
  have hux:ag [u]=[.agg u.cells]:=fU u
  have hu8:=u.au
  have huT:=u.ao
  rw[show u.sv= .agg u.cells from rfl] at hq3
  simp only[hux] at c1 c2 hvu ⊢
  generalize (letE (letE T [.mk x u]) rb).cells=xr at*
  generalize (letE T [.mk x u]).cells=xq at*
  generalize u.cells=xu at*
  have hpp:xu++[]=xu:=List.append_nil _
  have X:=FW X hpp hS8 hST hN8 hNT hu8 huT
  by_cases h0:gU x r=0
  ·obtain⟨y1,y2⟩:=hnot h0
   rw[y1] at c2
   rw[y2] at c3
   have h00:(gU x r:Int)=0:=by omega
   have X:=And.intro X h00
   (refine run ?_)
   clear c1 c2 c3
   have c1:=hq3
   have c2:=hq1
   have c3:=hq2
   (refine run ?_)
   exact Fin.aS (n0:=n0) hR (hlenQ _) hC' (hcls _) (.same _ (by simp only[aC,SV.under];exact hNu)) ⟨rfl,rfl⟩
  ·have h00:¬ (gU x r:Int)=0:=by omega
   have X:=And.intro X h00
   (refine run ?_)
   clear c1 c2 c3
   have c1:=hq3
   have c2:=hq1
   have c3:=hq2
   (refine run ?_)
   exact Fin.aS (n0:=n0) hR (hlenQ _) hC' (hcls _) (.same _ (by simp only[aC,SV.under];exact hNu)) ⟨rfl,rfl⟩
 rw[if_neg h5] at hR
 rw[hTb] at hR
 generalize (letE T [.mk x r]).cells=xr at*
 have hq2:=hlB
 by_cases hk5:rk=5
 ·have hnv:gl (eH r.ae)=false:=by
   cases h:gl (eH r.ae)
   ·rfl
   ·exact absurd ⟨hrk.trans hk5,h⟩ h5
  have hrf:=jj hgr (hrk.trans hk5)
  generalize eH r.ae=u at*
  generalize r.binds=rb at*
  have hr1:=hr0
  rw[hrf] at hr1
  obtain⟨rfl,rfl,rfl,rfl,rfl,rfl,rfl,rfl⟩:=Ex.mk.inj hr1
  have hq3:=fun H=>uR G hG u H
  rw[hnv] at hq3
  have hux:ag [u]=[.agg u.cells]:=fU u
  have hu8:=u.au
  have huT:=u.ao
  rw[show u.sv= .agg u.cells from rfl] at hq3
  simp only[hux] at c1 c2 hvu hq2 ⊢
  generalize u.cells=xu at*
  have X:=j8 X hB8 hBT hu8 huT
  by_cases h0:gU x r=0
  ·obtain⟨y1,y2⟩:=hnot h0
   rw[y1] at c2
   rw[y2] at c3
   have h00:(gU x r:Int)=0:=by omega
   have X:=And.intro X h00
   (refine run ?_)
   clear c1 c2 c3
   have c1:=hq3
   have c2:=hq2
   (refine run ?_)
   exact Fin.aS (n0:=n0) hR (hlenQ _) hC' (hcls _) (.same _ (by simp only[aC,SV.under];exact hBu)) ⟨rfl,rfl⟩
  ·have h00:¬ (gU x r:Int)=0:=by omega
   have X:=And.intro X h00
   (refine run ?_)
   clear c1 c2 c3
   have c1:=hq3
   have c2:=hq2
   (refine run ?_)
   exact Fin.aS (n0:=n0) hR (hlenQ _) hC' (hcls _) (.same _ (by simp only[aC,SV.under];exact hBu)) ⟨rfl,rfl⟩
 ·have X:=iY X hB8 hBT hk5
  by_cases h0:gU x r=0
  ·obtain⟨y1,y2⟩:=hnot h0
   rw[y1] at c2
   rw[y2] at c3
   have h00:(gU x r:Int)=0:=by omega
   have X:=And.intro X h00
   (refine run ?_)
   clear c1 c2 c3
   have c2:=hq2
   (refine run ?_)
   exact Fin.aS (n0:=n0) hR (hlenQ _) hC' (hcls _) (.same _ (by simp only[aC,SV.under];exact hBu)) ⟨rfl,rfl⟩
  ·have h00:¬ (gU x r:Int)=0:=by omega
   have X:=And.intro X h00
   (refine run ?_)
   clear c1 c2 c3
   have c2:=hq2
   (refine run ?_)
   exact Fin.aS (n0:=n0) hR (hlenQ _) hC' (hcls _) (.same _ (by simp only[aC,SV.under];exact hBu)) ⟨rfl,rfl⟩
mutual
theorem wa (K:Nat):∀ e:Ex,e.wt≤mO 1 K e
 | .mk k s n o ns ae binds alts=>by
  have h1:=Es K ae
  have h2:=wb K binds
  have h3:=Er K alts
  simp only[mO,ms,wO,Ex.names,Ex.binds,Ex.alts,Ex.wt] at*
  omega
theorem Es (K:Nat):∀ l:List Ex,cn l≤eF (wO 1 K) l
 |[]=>Nat.le_refl _
 |e::r=>by
  have h1:=wa K e
  have h2:=Es K r
  simp only[mO,eF,cn] at*
  omega
theorem wb (K:Nat):∀ l:List Bd,aV l≤1*l.length+dp (wO 1 K) l
 |[]=>Nat.le_refl _
 | .mk t e::r=>by
  have h1:=wa K e
  have h2:=wb K r
  simp only[mO,dp,Ou,aV,Bd.wt,List.length_cons] at*
  omega
theorem Er (K:Nat):∀ l:List Al,cf l≤fw 1 K cV l+eO (wO 1 K) l
 |[]=>Nat.le_refl _
 | .mk k s n ns e::r=>by
  have h1:=wa K e
  have h2:=Er K r
  simp only[mO,eO,Ov,cf,Al.wt,fw,Al.names,Al.body] at*
  omega
end
theorem Qt (K:Nat) (e:Ex):wO 1 K e≤wI 1 K e:=by
 have:=rG (c:=1) (K:=K) e.alts
 unfold wO wI
 omega
mutual
theorem QX (K:Nat):∀ e:Ex,ms (wO 1 K) e≤ms (wI 1 K) e
 | .mk k s n o ns ae binds alts=>by
  have h0:=Qt K (.mk k s n o ns ae binds alts)
  have h1:=JB K ae
  have h2:=DU K binds
  have h3:=DT K alts
  simp only[ms]
  omega
theorem JB (K:Nat):∀ l:List Ex,eF (wO 1 K) l≤eF (wI 1 K) l
 |[]=>Nat.le_refl _
 |e::r=>by
  have h1:=QX K e
  have h2:=JB K r
  simp only[eF]
  omega
theorem DU (K:Nat):∀ l:List Bd,dp (wO 1 K) l≤dp (wI 1 K) l
 |[]=>Nat.le_refl _
 | .mk t e::r=>by
  have h1:=QX K e
  have h2:=DU K r
  simp only[dp,Ou]
  omega
theorem DT (K:Nat):∀ l:List Al,eO (wO 1 K) l≤eO (wI 1 K) l
 |[]=>Nat.le_refl _
 | .mk k s n ns e::r=>by
  have h1:=QX K e
  have h2:=DT K r
  simp only[eO,Ov]
  omega
end
theorem QH.more {Q:Nat→List av} {sb g0 n0:Nat} (h:QH Q sb g0 n0) (L:List av):QH (fun nx=>Q nx++L) sb g0 (n0+L.length) where
 len n:=by rw[List.length_append,h.len]
 lt:=by have:=h.lt;omega
 get n L':=by rw[List.append_assoc];exact h.get n _
 set n n' L':=by rw[List.append_assoc,List.append_assoc];exact h.set n n' _
theorem QH.Pz {Q:Nat→List av} {sb g0 n0:Nat} (h:QH Q sb g0 n0) {n:Nat} {L:List av} {kv:SV} {k:Kn} (hk:fy (Q n++L) kv k) (nx:Nat) (L':List av):fy ((Q nx++L)++L') kv k:=by
 rw[← h.set n nx L]
 exact(hk.set (h.get n L) (fun l e=>by cases e)).app L'
theorem QH.cl {Q:Nat→List av} {sb g0 n0:Nat} (h:QH Q sb g0 n0) {n:Nat} {L:List av} (hc:closed (Q n++L)) (nx:Nat):closed (Q nx++L):=by
 rw[← h.set n nx L]
 exact hc.set rfl
def RO (G:Gl) (x:Ex) (k:Kn) (n:Nat) (T:Ex×Nat):Prop:=∀ Q sb g0 n0,QH Q sb g0 n0→M3 G Q sb g0 x k n T
theorem Bn {D l:List Ex} {i:Nat} (hD:D.length=i) (h:i<l.length):(ag (D++l.drop i))[i]? =some (.agg l[i].cells):=by
 rw[aL,List.getElem?_map,yP hD h,Option.map_some];rfl
theorem yY {D l:List Ex} {i:Nat} (hD:D.length=i) (h:i<l.length) (y:Ex):
 (ag (D++l.drop i)).set i (.agg y.cells)=ag ((D++[y])++l.drop (i+1)):=by
 rw[aL,aL,← yR hD h,List.map_set];rfl
theorem yX {D l:List Ex} {i:Nat} (hD:D.length=i) (h:i≤l.length):(ag (D++l.drop i)).length=l.length:=by rw[bV,yQ hD h]
section
theorem nu {α:Type} (f:α→Nat) {l:List α} {i:Nat} (h:i<l.length):((l.take i).map f).sum+f l[i]≤(l.map f).sum:=by
 have e:l=l.take i++l[i]::l.drop (i+1):=by rw[← List.drop_eq_getElem_cons h,List.take_append_drop]
 have e2:(l.map f).sum=((l.take i++l[i]::l.drop (i+1)).map f).sum:=congrArg (fun l=>(List.map f l).sum) e
 rw[e2,List.map_append,List.sum_append,List.map_cons,List.sum_cons]
 omega
def BC (e:Ex):Prop:=eM (fun e=>decide (e.binds.length<131072)) e=true
theorem BC.part {e p:Ex} (h:BC e) (hp:p∈e.parts):BC p:=by
 unfold BC at h ⊢
 rw[dk,Bool.and_eq_true,List.all_eq_true] at h
 exact h.2 p hp
theorem BC.here {e:Ex} (h:BC e):e.binds.length<131072:=by
 unfold BC at h
 rw[dk,Bool.and_eq_true] at h
 exact of_decide_eq_true h.1
def QF (G:Gl) (cs:List Cn) (P:aD→Prop) (K N m:Nat) (F:Ex→Kn→Nat→Ex×Nat):Prop:=
 ∀ x k n,x.wt≤m→Gd cs P x→wc cs P k→KC K x→BC x→mI 1 K x+n≤N→RO G x k n (F x k n)
section
variable {cs:List Cn} {P:aD→Prop} {K N m:Nat} {F:Ex→Kn→Nat→Ex×Nat}
theorem Oo (G:Gl) (hG:ah G) (hF:M1 cs P K N m F) (hI:QF G cs P K N m F) (hNb:N<137438953472) (s:Ex) (binds:List Bd) (k:Kn) (n:Nat)
 (hm:(letE s binds).wt≤m+1) (hg:Gd cs P (letE s binds)) (hk:wc cs P k) (hc:KC K (letE s binds)) (hbc:BC (letE s binds)) (hb:mI 1 K (letE s binds)+n≤N)
 (Q:Nat→List av) (sb g0 n0:Nat) (hQ:QH Q sb g0 n0) (kv:SV) (L:List av) (hkn:fy (Q n++L) kv k):
 aq Tryz.prog G 89 [.ptr sb g0 0 0,(letE s binds).sv,kv] (Q n++L)
  (fun r H'=>H'=Q (Jh F k (letE s binds) (aG (kW fun x n=>F x k n) binds n)).2++L∧r=(Jh F k (letE s binds) (aG (kW fun x n=>F x k n) binds n)).1.sv):=by
 have hwp:∀ p∈(letE s binds).parts,p.wt≤m:=fun p hp=>by have:=Ex.cm hp;omega
 have hcp:=fun p hp=>hc.part (p:=p) hp
 have hbp:=fun p hp=>hbc.part (p:=p) hp
 have hbl:=hbc.here
 unfold letE at*
 rw[Ex.ck] at hwp hcp hbp
 obtain⟨g0',g1,g2,g3⟩:=(cO ..).1 hg
 have hs:s∈[s]++(binds.map Bd.e++([]:List Al).map Al.body):=by simp
 have hB:=fun(x:Bd) (hx:x∈binds)=>fc (hwp x.e (List.mem_append_right _ (List.mem_append_left _ (List.mem_map_of_mem hx)))) (g2 x hx) (hcp x.e (List.mem_append_right _ (List.mem_append_left _ (List.mem_map_of_mem hx))))
 have hBb:=fun(x:Bd) (hx:x∈binds)=>hbp x.e (List.mem_append_right _ (List.mem_append_left _ (List.mem_map_of_mem hx)))
 rw[B8] at hb
 simp only[eF,eO,fw,oL,List.length_nil] at hb
 obtain⟨b1,b2,b3,b4,b5⟩:=oa hF hk binds n hB (by omega)
 have hpart:∀ i (h:i<binds.length),mI 1 K binds[i].e+fC (kW fun x n=>F x k n) binds n i≤N:=fun i h=>by
  obtain⟨-,-,t3,-,-⟩:=oa hF hk (binds.take i) n (fun x hx=>hB x (List.mem_of_mem_take hx)) (by
   have:=nu (fun b=>ms (wI 1 K) (Bd.e b)) h
   rw[← gT,← gT] at this
   omega)
  have:=nu (fun b=>ms (wI 1 K) (Bd.e b)) h
  rw[← gT,← gT] at this
  unfold fC
  simp only[mI]
  omega
 have hQ':=hQ.more L
 have hl:(aG (kW fun x n=>F x k n) binds n).1.length=binds.length:=ek ..
 have hT:=fun(i:Nat) (h:i<binds.length)=>hI binds[i].e k (fC (kW fun x n=>F x k n) binds n i) (hB _ (List.getElem_mem h)).1 (hB _ (List.getElem_mem h)).2.1 hk (hB _ (List.getElem_mem h)).2.2 (hBb _ (List.getElem_mem h)) (hpart i h) _ sb g0 _ hQ'
 generalize hBn:aG (kW fun x n=>F x k n) binds n=B at*
 obtain⟨B,n1⟩:=B
 dsimp only at b1 b2 b3 b4 b5 hl
 have hkb:=zo B k hk b1
 have hgs:=g1 s (List.mem_singleton_self _)
 have hbs:mI 1 K s+n1≤N:=by simp only[mI];omega
 obtain⟨f1,f2,f3,f4⟩:=hF s (BZ k B) n1 (hwp s hs) hgs hkb (hcp s hs) hbs
 have hTB:=hI s (BZ k B) n1 (hwp s hs) hgs hkb (hcp s hs) (hbp s hs) hbs _ sb g0 _ hQ'
 have hwB:=wb K B
 have hwT:=wa K (F s (BZ k B) n1).1
 have h:=Ji G hG F s binds n k kv hbl sb g0 _ (fun nx=>Q nx++L) hQ' (fun hc nx=>hQ.cl hc nx) (fun nx L'=>hQ.Pz hkn nx L') hT B n1 hBn _ rfl hTB
  (cs:=cs) (P:=P) (fun b hb=>⟨b1 b hb,by
   have:=Mt (w:=wO 1 K) hb
   have:=wa K b.e
   simp only[mO] at*
   omega⟩) (by omega) (by simp only[mO] at*;omega)
 have he:(Ex.mk 5 [] 0 0 [] [s] binds []).sv= .agg [.int .i64 5,.str [],.int .i64 0,.int .i64 0,.list 1 [],.list 8 [.agg s.cells],.list 9 (ad binds),.list 12 []]:=by
  show SV.agg (Ex.cells _)=_
  rw[← fU];rfl
 rw[he]
 exact h
end
end
section
section
variable {cs:List Cn} {P:aD→Prop} {K N m:Nat} {F:Ex→Kn→Nat→Ex×Nat}
theorem F4 (G:Gl) (hG:ah G) (hit:yz G) (hPn:∀ i,i<N→P (cx i)) (hF:M1 cs P K N m F) (hI:QF G cs P K N m F) (hNb:N<137438953472) (enm:aD) (v:Ex) (alts:List Al) (k:Kn) (n:Nat)
 (he':Gd cs P (eE enm v alts)) (hk:wc cs P k) (hA:∀ x∈alts,x.body.wt≤m∧Gd cs P x.body∧KC K x.body∧BC x.body) (hkap:2*(fk alts+1)≤K)
 (hb:1+mO 1 K v+fw 1 K (fun _=>true) alts+oL alts+eO (wI 1 K) alts+n≤N)
 (Q:Nat→List av) (sb g0 n0:Nat) (hQ:QH Q sb g0 n0) (kv:SV) (L:List av) (hkn:fy (Q n++L) kv k):
 aq Tryz.prog G 95 [.ptr sb g0 0 0,(eE enm v alts).sv,kv] (Q n++L)
  (fun r H'=>H'=Q (iG k (eE enm v (aG (cB F k enm v) alts n).1) v (aG (cB F k enm v) alts n).2).2++L∧r=(iG k (eE enm v (aG (cB F k enm v) alts n).1) v (aG (cB F k enm v) alts n).2).1.sv):=by
 have hQ':=hQ.more L
 simp only[mO] at hb
 have hkA:∀ x∈alts,wc cs P (sR k enm v x):=fun x hx=>Jd (e:=eE enm v alts) he' hx hk enm
 have hA4:∀ x∈alts,x.body.wt≤m∧Gd cs P x.body∧KC K x.body∧wc cs P (sR k enm v x):=fun x hx=>⟨(hA x hx).1,(hA x hx).2.1,(hA x hx).2.2.1,hkA x hx⟩
 have hpart:∀ i (h:i<alts.length),mI 1 K alts[i].body+fC (cB F k enm v) alts n i≤N:=fun i h=>by
  have hst:=nu (fun a=>ms (wI 1 K) (Al.body a)) h
  rw[← zH,← zH] at hst
  obtain⟨-,t2,-,-⟩:=tk hF (k:=k) (nm:=enm) (v:=v) (alts.take i) n (fun x hx=>hA4 x (List.mem_of_mem_take hx)) (by omega)
  unfold fC
  simp only[mI]
  omega
 have hT:=fun(i:Nat) (h:i<alts.length)=>hI alts[i].body (sR k enm v alts[i]) (fC (cB F k enm v) alts n i) (hA _ (List.getElem_mem h)).1 (hA _ (List.getElem_mem h)).2.1 (hkA _ (List.getElem_mem h)) (hA _ (List.getElem_mem h)).2.2.1 (hA _ (List.getElem_mem h)).2.2.2 (hpart i h) _ sb g0 _ hQ'
 obtain⟨a1,a2,a3,a4⟩:=tk hF (k:=k) (nm:=enm) (v:=v) alts n hA4 (by omega)
 have hh:(aG (cB F k enm v) alts n).1.map oA=alts.map oA:=tp _ oA (fun a m=>jB a _) _ _
 have hgs:Gd cs P v:=he'.sub v (List.mem_singleton_self v)
 obtain⟨w1,w2,w3⟩:=zw (c:=1) (K:=K) (aG (cB F k enm v) alts n).1 alts hh
 have hge:Gd cs P (eE enm v (aG (cB F k enm v) alts n).1):=by
  refine(cO ..).2 ⟨?_,by simpa using hgs,by simp,a1⟩
  have:=((cO ..).1 he').1
  exact this.xD hh
 have hu1:wD 1 K (aG (cB F k enm v) alts n).1=fw 1 K (fun _=>true) alts+oL alts+eO (wO 1 K) (aG (cB F k enm v) alts n).1:=by unfold wD;rw[w1,w2]
 have c1:=yJ (c:=1) (K:=K) (K':=K) (N:=N) hPn (Nat.le_refl _) (e:=eE enm v (aG (cB F k enm v) alts n).1) hge rfl (v:=v) rfl hk (by simp only[eE,Ex.alts];omega) (by simp only[eE,Ex.alts];omega) (aG (cB F k enm v) alts n).2 (by simp only[eE,Ex.alts,hu1,mO];omega)
 have hwt:=wa K (eE enm v (aG (cB F k enm v) alts n).1)
 have hle:=rG (c:=1) (K:=K) (aG (cB F k enm v) alts n).1
 have hmE:mO 1 K (eE enm v (aG (cB F k enm v) alts n).1)≤1+fw 1 K (fun _=>true) (aG (cB F k enm v) alts n).1+mO 1 K v+eO (wO 1 K) (aG (cB F k enm v) alts n).1:=by
  unfold eE
  rw[fx];simp[dp,eF];omega
 have hnm:∀ a∈alts,a.names.length<137438953472:=fun a ha=>by
  have:=Mo (c:=1) (K:=K) ha
  omega
 have hal:alts.length<137438953472:=by
  have h1:=iQ (aG (cB F k enm v) alts n).1
  have h2:(aG (cB F k enm v) alts n).1.length=alts.length:=ek ..
  have h3:=Er K (aG (cB F k enm v) alts n).1
  simp only[mO] at*
  omega
 obtain⟨vk,vn,vnn,vop,vns,vss,vbs,vas,hv⟩:∃ vk vn vnn vop vns vss vbs vas,v= .mk vk vn vnn vop vns vss vbs vas:=by cases v;exact⟨_,_,_,_,_,_,_,_,rfl⟩
 have h:=AN G hG F enm vk vn vnn vop vns vss vbs vas v hv alts n k kv hal hnm sb g0 _ (fun nx=>Q nx++L) hQ' (fun hc nx=>hQ.cl hc nx) (fun nx L'=>hQ.Pz hkn nx L') hT hit hk hge
  (by simp only[mO] at*;omega) (by simp only[eE,Ex.alts,hu1,mO] at*;omega)
 have he:(eE enm v alts).sv= .agg [.int .i64 6,.str enm,.int .i64 0,.int .i64 0,.list 1 [],.list 8 [.agg [.int .i64 vk,.str vn,.int .i64 vnn,.int .i64 vop,.list 1 (vns.map .str),.list 8 (ag vss),.list 9 (ad vbs),.list 12 (af vas)]],.list 9 [],.list 12 (af alts)]:=by
  rw[hv];rfl
 rw[he]
 exact h
end
end
theorem Kq (G:Gl) (hG:ah G) (F:Ex→Kn→Nat→Ex×Nat) (kd:Int) (nm:aD) (nn op:Int) (names:List aD) (ae:List Ex) (binds:List Bd) (alts:List Al) (n:Nat) (k:Kn) (kv:SV) (hk5:¬ kd=5)
 (hsl:ae.length<137438953472) (sb g0 n0:Nat) (Q:Nat→List av) (hQ:QH Q sb g0 n0) (hqc:closed (Q n)→∀ nx,closed (Q nx)) (hkn:∀ nx L,fy (Q nx++L) kv k)
 (hT:∀ (i:Nat) (h:i<ae.length),M3 G Q sb g0 ae[i] k (fC (fun x n=>F x k n) ae n i) (F ae[i] k (fC (fun x n=>F x k n) ae n i)))
 (S1:List Ex) (n1:Nat) (hSn:aG (fun x n=>F x k n) ae n=(S1,n1)) (T:Ex×Nat)
 (hk8:kd=8→∀ H,aq Tryz.prog G 93 [.agg [.int .i64 kd,.str nm,.int .i64 nn,.int .i64 op,.list 1 (names.map .str),.list 8 (ag S1),.list 9 (ad binds),.list 12 (af alts)]] H (fun r H'=>H'=H∧r=T.1.sv))
 (hk4:kd=4→∀ H,aq Tryz.prog G 94 [.agg [.int .i64 kd,.str nm,.int .i64 nn,.int .i64 op,.list 1 (names.map .str),.list 8 (ag S1),.list 9 (ad binds),.list 12 (af alts)]] H (fun r H'=>H'=H∧r=T.1.sv))
 (hk6:kd=6→∀ L,fy (Q n1++L) kv k→aq Tryz.prog G 95 [.ptr sb g0 0 0,.agg [.int .i64 kd,.str nm,.int .i64 nn,.int .i64 op,.list 1 (names.map .str),.list 8 (ag S1),.list 9 (ad binds),.list 12 (af alts)],kv] (Q n1++L) (fun r H'=>H'=Q T.2++L∧r=T.1.sv))
 (hk3:kd=3→∃ s0,S1=[s0]∧if s0.kind=3 then (T.1=df (names++s0.names) (eH s0.ae)∧s0=df s0.names (eH s0.ae)∧0<names.length+s0.names.length∧names.length+s0.names.length≤274877906944) else T.1.sv= .agg [.int .i64 kd,.str nm,.int .i64 nn,.int .i64 op,.list 1 (names.map .str),.list 8 (ag S1),.list 9 (ad binds),.list 12 (af alts)])
 (hk0:¬ kd=3→¬ kd=4→¬ kd=6→¬ kd=8→T.1.sv= .agg [.int .i64 kd,.str nm,.int .i64 nn,.int .i64 op,.list 1 (names.map .str),.list 8 (ag S1),.list 9 (ad binds),.list 12 (af alts)]) (hn1:¬ kd=6→T.2=n1):
 aq Tryz.prog G 50 [.ptr sb g0 0 0,.agg [.int .i64 kd,.str nm,.int .i64 nn,.int .i64 op,.list 1 (names.map .str),.list 8 (ag ae),.list 9 (ad binds),.list 12 (af alts)],kv] (Q n) (fun r H'=>H'=Q T.2∧r=T.1.sv):=by
 have hcln:=fun H=>wT G hG ae H (by omega)
 have hel:=bV ae
 have hkf:=(hkn n []).form
 rw[List.append_nil,hQ.len] at hkf
 have hku:kv.under n0=true:=by
  rcases hkf with rfl|⟨b,rfl,hb⟩
  ·rfl
  ·simp only[SV.under,decide_eq_true_eq];exact hb
 have hqn:=hQ.len n
 generalize hHH:Q n=H at*
 refine bP [] Tryz.func50 Tryz.ntmps50 fun C R' hR hC hcl hB hC' X=>?_
 have hcls:=hqc hcl
 subst hHH
 rw[hqn] at hC'
 have hlenQ:=hQ.len
 have hsb:sb<n0:=hQ.lt
 have hx20:=hQ.get
 have hx21:=hlenQ
 have hx22:∀ nx L,(Q nx++L)[n0]? =L[0]? :=fun nx L=>by rw[← hlenQ nx];exact bL _ _
 have hx23:∀ nx L k,(Q nx++L)[n0+k]? =L[k]? :=fun nx L k=>by rw[← hlenQ nx];exact aH _ _ _
 have hx24:∀ nx L x,(Q nx++L).set n0 x=Q nx++L.set 0 x:=fun nx L x=>by rw[← hlenQ nx];exact du _ _ _
 have hx25:∀ nx L k x,(Q nx++L).set (n0+k) x=Q nx++L.set k x:=fun nx L k x=>by rw[← hlenQ nx];exact bW _ _ _ _
 have X:=And.intro (eu aO hx20 hx21 hx22 hx23 hx24 hx25) hk5
 (refine run ?_)
 refine br (hcln _) ?_
 rintro r H' ⟨rfl,rfl⟩
 simp only[List.append_assoc,List.cons_append,List.nil_append,List.length_append,List.length_cons,List.length_nil,List.length_set,X,Nat.reduceAdd]
 (refine run ?_)
 have hmd:∀ i,i≤ae.length→Fp (fun x n=>F x k n) ae n i=S1.take i:=fun i hi=>zG hSn hi
 refine aA (fun i:Nat=>[(0,.ptr sb g0 0 0),(4,.ptr n0 0 0 0),(6,.ptr (n0+1) 0 0 0),(2,kv),(22,.int .i64 ae.length),(23,.int .i64 (i:Int))])
  (fun i=>Q (fC (fun x n=>F x k n) ae n i)++[.cells 0 8 [.agg [.int .i64 kd,.str nm,.int .i64 nn,.int .i64 op,.list 1 (names.map .str),.sl (n0+2) 0 0 ae.length,.list 9 (ad binds),.list 12 (af alts)]],.cells 0 8 [.agg [.int .i64 0,.str [],.int .i64 0,.int .i64 0,.list 1 [],.list 8 [],.list 9 [],.list 12 []]],.cells 0 8 (ag (S1.take i++ae.drop i))]) (fun i=>ae.length - i) (fun i=>i≤ae.length) 0 (Nat.zero_le _) ?_ ?_
 ·rw[qD.2,List.take_zero,List.nil_append,List.drop_zero]
  exact Wk.sub (by simp[aW,look])
 rintro K i hi hK
 have hD:(S1.take i).length=i:=by rw[← hmd i hi];exact DS hi
 have hlc:=yX hD hi
 rcases Nat.lt_or_ge i ae.length with hlt|hge
 ·have hgi:=Bn hD hlt
  obtain⟨hsD,hsN⟩:=tt (f:=(fun x n=>F x k n)) (n:=n) hlt
  rw[hmd i hi,hmd (i+1) hlt] at hsD
  have hTi:=hT i hlt
  unfold M3 at hTi
  have hst:=yY hD hlt (F ae[i] k (fC (fun x n=>F x k n) ae n i)).1
  rw[← hsD] at hst
  have hr8:=(F ae[i] k (fC (fun x n=>F x k n) ae n i)).1.au
  have hrT:=(F ae[i] k (fC (fun x n=>F x k n) ae n i)).1.ao
  have c1:=hTi kv _ (hkn _ [.cells 0 8 [.agg [.int .i64 kd,.str nm,.int .i64 nn,.int .i64 op,.list 1 (names.map .str),.sl (n0+2) 0 0 ae.length,.list 9 (ad binds),.list 12 (af alts)]],.cells 0 8 [.agg [.int .i64 0,.str [],.int .i64 0,.int .i64 0,.list 1 [],.list 8 [],.list 9 [],.list 12 []]],.cells 0 8 (ag (S1.take i++ae.drop i))])
  rw[show(F ae[i] k (fC (fun x n=>F x k n) ae n i)).1.sv= .agg (F ae[i] k (fC (fun x n=>F x k n) ae n i)).1.cells from rfl,show(ae[i]).sv= .agg (ae[i]).cells from rfl] at c1
  have hx8:=(ae[i]).au
  have hxT:=(ae[i]).ao
  have hxD:=(ae[i]).ij
  generalize (F ae[i] k (fC (fun x n=>F x k n) ae n i)).1.cells=xr at*
  generalize (F ae[i] k (fC (fun x n=>F x k n) ae n i)).2=nx3 at*
  generalize (ae[i]).cells=xb at*
  have X:=FW (eu aO hx20 hx21 hx22 hx23 hx24 hx25) hlc hgi hst hr8 hrT hx8 hxT
  (refine run ?_;with_reducible repeat' first|exact trivial|(apply aJ.mk<;>intro hb)|apply bN.mk)
  refine hK _ _ (i+1) (by omega) (by omega) ?_
  rw[hsN]
  exact Wk.sub (by simp[aW,look])
 obtain rfl:i=ae.length:=by omega
 clear hK
 have hBl:S1.length=ae.length:=by have:=ek (fun x n=>F x k n) ae n;rw[hSn] at this;exact this
 have hmn:fC (fun x n=>F x k n) ae n ae.length=n1:=by rw[ve.2,hSn]
 rw[hmn]
 have hBt:S1.take ae.length=S1:=List.take_of_length_le (by omega)
 rw[hBt,List.drop_length,List.append_nil]
 clear hT hmd hD hBt hSn hmn hlc
 have hSu:=bc n0 S1
 have hSc:=bV S1
 refine ke [(0,.ptr sb g0 0 0),(4,.ptr n0 0 0 0),(6,.ptr (n0+1) 0 0 0),(2,kv),(22,.int .i64 ae.length),(23,.int .i64 (ae.length:Int))]
  (Q n1++[.cells 0 8 [.agg [.int .i64 kd,.str nm,.int .i64 nn,.int .i64 op,.list 1 (names.map .str),.list 8 (ag S1),.list 9 (ad binds),.list 12 (af alts)]],.cells 0 8 [.agg [.int .i64 0,.str [],.int .i64 0,.int .i64 0,.list 1 [],.list 8 [],.list 9 [],.list 12 []]]]) (bI (n0:=n0) [(n0,0),(n0+1,0)] hG hB hC' (hcls _) (hn:=hlenQ _) (hd:=ra n0 [0,1] (by decide))
   (hk:=bH.c (by rw[hx22];rfl) (Nat.le_refl _) (Nat.zero_le _) (.cons _ _ _ _ (.agg _ _ (Gq kd nm nn op (.same _ (by simp only[SV.under];exact bj ..)) (bF.sf (by rw[hx23];rfl) (by omega) (by simp) (by rw[List.drop_zero,List.take_of_length_le (by omega)]) hSu) (.same _ (by simp only[SV.under];exact aK ..)) (.same _ (by simp only[SV.under];exact bA ..)))) .nil) (bH.c (by rw[hx23];rfl) (by omega) (Nat.zero_le _) (by exact gi) .nil))) ?_
 have hirr:=Int.lt_irrefl (ae.length:Int)
 have hT8:=T.1.au
 have hTT:=T.1.ao
 have hTu:=T.1.aw n0
 have hTs:T.1.sv= .agg T.1.cells:=rfl
 by_cases k8:kd=8
 ·have c1:=hk8 k8
  rw[hTs] at c1 hR
  rw[hn1 (by omega)] at hR
  clear hk8 hk4 hk6 hk3 hk0
  generalize T.1.cells=xr at*
  subst k8
  have X:=iY (eu aO hx20 hx21 hx22 hx23 hx24 hx25) hirr hT8 hTT
  (refine run ?_)
  exact Fin.aS (n0:=n0) hR (hlenQ _) hC' (hcls _) (.same _ (by simp only[aC,SV.under];exact hTu)) ⟨rfl,rfl⟩
 by_cases k4:kd=4
 ·have c1:=hk4 k4
  rw[hTs] at c1 hR
  rw[hn1 (by omega)] at hR
  clear hk8 hk4 hk6 hk3 hk0
  generalize T.1.cells=xr at*
  subst k4
  have X:=iY (eu aO hx20 hx21 hx22 hx23 hx24 hx25) hirr hT8 hTT
  (refine run ?_)
  exact Fin.aS (n0:=n0) hR (hlenQ _) hC' (hcls _) (.same _ (by simp only[aC,SV.under];exact hTu)) ⟨rfl,rfl⟩
 by_cases k6:kd=6
 ·have c1:=hk6 k6 _ (hkn n1 [.cells 0 8 [.agg [.int .i64 kd,.str nm,.int .i64 nn,.int .i64 op,.list 1 (names.map .str),.list 8 (ag S1),.list 9 (ad binds),.list 12 (af alts)]],.cells 0 8 [.agg [.int .i64 0,.str [],.int .i64 0,.int .i64 0,.list 1 [],.list 8 [],.list 9 [],.list 12 []]]])
  rw[hTs] at c1 hR
  clear hk8 hk4 hk6 hk3 hk0
  generalize T.1.cells=xr at*
  generalize T.2=nx at*
  subst k6
  have X:=iY (eu aO hx20 hx21 hx22 hx23 hx24 hx25) hirr hT8 hTT
  (refine run ?_)
  exact Fin.aS (n0:=n0) hR (hlenQ _) hC' (hcls _) (.same _ (by simp only[aC,SV.under];exact hTu)) ⟨rfl,rfl⟩
 rw[hn1 k6] at hR
 have hEu:SV.aj n0 [.int .i64 kd,.str nm,.int .i64 nn,.int .i64 op,.list 1 (names.map .str),.list 8 (ag S1),.list 9 (ad binds),.list 12 (af alts)]=true:=by simp only[SV.under,SV.aj,bc,aK,bA,bj,Bool.and_self]
 by_cases k3:kd=3
 rotate_left
 ·rw[hk0 k3 k4 k6 k8] at hR
  clear hk8 hk4 hk6 hk3 hk0
  have X:=oD (eu aO hx20 hx21 hx22 hx23 hx24 hx25) hirr k3 k4 k6 k8
  (refine run ?_)
  exact Fin.aS (n0:=n0) hR (hlenQ _) hC' (hcls _) (.same _ (by simp only[aC,SV.under];exact hEu)) ⟨rfl,rfl⟩
 obtain⟨s0,rfl,h3⟩:=hk3 k3
 clear hk8 hk4 hk6 hk3 hk0
 subst k3
 have hone:=fU s0
 by_cases hs3:s0.kind=3
 ·rw[if_pos hs3] at h3
  obtain⟨t1,t2,t3,t4⟩:=h3
  generalize s0.names=sn at*
  generalize eH s0.ae=u at*
  subst t2
  have c1:=fun H=>Dl G hG names sn t3 t4 H
  have c2:=fun H=>xL G hG (names++sn) u H
  rw[← t1,hTs,show u.sv= .agg u.cells from rfl] at c2
  rw[hTs] at hR
  have hu8:=u.au
  have huT:=u.ao
  have hlc2:(df sn u).cells=[.int .i64 3,.str [],.int .i64 0,.int .i64 0,.list 1 (sn.map .str),.list 8 [.agg u.cells],.list 9 [],.list 12 []]:=by
   rw[← fU];rfl
  rw[hlc2] at hone
  simp only[hone]
  clear t1 hSu hEu
  generalize u.cells=xu at*
  generalize T.1.cells=xr at*
  have X:=oD (eu aO hx20 hx21 hx22 hx23 hx24 hx25) hirr hT8 hTT hu8 huT
  (refine run ?_)
  exact Fin.aS (n0:=n0) hR (hlenQ _) hC' (hcls _) (.same _ (by simp only[aC,SV.under];exact hTu)) ⟨rfl,rfl⟩
 ·rw[if_neg hs3] at h3
  rw[h3] at hR
  obtain⟨ak,an,ann,aop,ans,ass,abs',aas⟩:=s0
  have ha3:¬ ak=3:=hs3
  simp only[hone] at hR hEu ⊢
  rw[show Ex.cells (.mk ak an ann aop ans ass abs' aas)=[.int .i64 ak,.str an,.int .i64 ann,.int .i64 aop,.list 1 (ans.map .str),.list 8 (ag ass),.list 9 (ad abs'),.list 12 (af aas)] from rfl] at*
  have X:=fc (eu aO hx20 hx21 hx22 hx23 hx24 hx25) hirr ha3
  (refine run ?_)
  exact Fin.aS (n0:=n0) hR (hlenQ _) hC' (hcls _) (.same _ (by simp only[aC,SV.under];exact hEu)) ⟨rfl,rfl⟩
section
theorem MQ (G:Gl) (hG:ah G) (s:Ex) (binds:List Bd) (n:Nat) (k:Kn) (kv:SV) (sb g0 n0:Nat) (Q:Nat→List av) (hQ:QH Q sb g0 n0) (hqc:closed (Q n)→∀ nx,closed (Q nx)) (hkn:∀ nx L,fy (Q nx++L) kv k) (T:Ex×Nat)
 (hc:∀ L,fy (Q n++L) kv k→aq Tryz.prog G 89 [.ptr sb g0 0 0,.agg [.int .i64 5,.str [],.int .i64 0,.int .i64 0,.list 1 [],.list 8 [.agg s.cells],.list 9 (ad binds),.list 12 []],kv] (Q n++L) (fun r H'=>H'=Q T.2++L∧r=T.1.sv)):
 aq Tryz.prog G 50 [.ptr sb g0 0 0,.agg [.int .i64 5,.str [],.int .i64 0,.int .i64 0,.list 1 [],.list 8 [.agg s.cells],.list 9 (ad binds),.list 12 []],kv] (Q n) (fun r H'=>H'=Q T.2∧r=T.1.sv):=by
 have hkf:=(hkn n []).form
 rw[List.append_nil,hQ.len] at hkf
 have hqn:=hQ.len n
 have hsu:=s.aw n0
 have hs8:=s.au
 have hsT:=s.ao
 generalize s.cells=xs at*
 have c1:=hc _ (hkn n [.cells 0 8 [.agg [.int .i64 5,.str [],.int .i64 0,.int .i64 0,.list 1 [],.list 8 [.agg xs],.list 9 (ad binds),.list 12 []]],.cells 0 8 [.agg [.int .i64 0,.str [],.int .i64 0,.int .i64 0,.list 1 [],.list 8 [],.list 9 [],.list 12 []]]])
 have hT8:=T.1.au
 have hTT:=T.1.ao
 have hTu:=T.1.aw n0
 have hTs:T.1.sv= .agg T.1.cells:=rfl
 rw[hTs] at c1 ⊢
 clear hc hTs
 generalize T.1.cells=xr at*
 generalize T.2=nx at*
 generalize hHH:Q n=H at*
 refine bP [] Tryz.func50 Tryz.ntmps50 fun C R' hR hC hcl hB hC' X=>?_
 have hcls:=hqc hcl
 subst hHH
 rw[hqn] at hC'
 have hlenQ:=hQ.len
 have hsb:sb<n0:=hQ.lt
 have hx20:=hQ.get
 have hx21:=hlenQ
 have hx22:∀ nx L,(Q nx++L)[n0]? =L[0]? :=fun nx L=>by rw[← hlenQ nx];exact bL _ _
 have hx23:∀ nx L k,(Q nx++L)[n0+k]? =L[k]? :=fun nx L k=>by rw[← hlenQ nx];exact aH _ _ _
 have hx24:∀ nx L x,(Q nx++L).set n0 x=Q nx++L.set 0 x:=fun nx L x=>by rw[← hlenQ nx];exact du _ _ _
 have hx25:∀ nx L k x,(Q nx++L).set (n0+k) x=Q nx++L.set k x:=fun nx L k x=>by rw[← hlenQ nx];exact bW _ _ _ _
 have X:=fc (eu aO hx20 hx21 hx22 hx23 hx24 hx25) hT8 hTT
 (refine run ?_)
 exact Fin.aS (n0:=n0) hR (hlenQ _) hC' (hcls _) (.same _ (by simp only[aC,SV.under];exact hTu)) ⟨rfl,rfl⟩
section
variable {cs:List Cn} {P:aD→Prop} {K N:Nat}
theorem vS (G:Gl) (hG:ah G) (hit:yz G) (hPn:∀ i,i<N→P (cx i)) (ht:ew cs vT 0=true) (hf:ew cs o9 0=true) (hNb:N<137438953472):∀ m,QF G cs P K N m (en m)
 |0,e,k,n,hm,_,_,_,_,_=>absurd e.bZ (by omega)
 |m+1,.mk kd nm nn op names ae binds alts,k,n,hm,hg,hk,hc,hbc,hb=>by
  have hI:=vS G hG hit hPn ht hf hNb m
  have hF:M1 cs P K N m (en m):=Af hPn ht hf m
  intro Q sb g0 n0 hQ kv L hkn
  have hQ':=hQ.more L
  by_cases h5:kd=5
  ·have hfo:=jj hg h5
   generalize eH (Ex.mk kd nm nn op names ae binds alts).ae=s at*
   generalize hbq:(Ex.mk kd nm nn op names ae binds alts).binds=bq at*
   rw[hfo] at hm hg hc hbc hb ⊢
   have h:=fun L2 (h2:fy ((Q n++L)++L2) kv k)=>Oo G hG hF hI hNb s bq k n hm hg hk hc hbc hb (fun nx=>Q nx++L) sb g0 _ hQ' kv L2 h2
   have he:(letE s bq).sv= .agg [.int .i64 5,.str [],.int .i64 0,.int .i64 0,.list 1 [],.list 8 [.agg s.cells],.list 9 (ad bq),.list 12 []]:=by
    show SV.agg (Ex.cells _)=_
    rw[← fU];rfl
   rw[he] at h ⊢
   exact MQ G hG s bq n k kv sb g0 _ (fun nx=>Q nx++L) hQ' (fun hc nx=>hQ.cl hc nx) (fun nx L'=>hQ.Pz hkn nx L') (en (m+1) (letE s bq) k n) h
  have hwp:∀ p∈(Ex.mk kd nm nn op names ae binds alts).parts,p.wt≤m:=fun p hp=>by have:=Ex.cm hp;omega
  have hcp:=fun p hp=>hc.part (p:=p) hp
  have hbp:=fun p hp=>hbc.part (p:=p) hp
  rw[Ex.ck] at hwp hcp hbp
  obtain⟨g0',g1,g2,g3⟩:=(cO ..).1 hg
  obtain⟨q1,q2,q3,q4,q5,q6,q7,q8⟩:=fJ hg
  have hL:=fun(x:Ex) (hx:x∈ae)=>fc (hwp x (List.mem_append_left _ hx)) (g1 x hx) (hcp x (List.mem_append_left _ hx))
  have hLb:=fun(x:Ex) (hx:x∈ae)=>hbp x (List.mem_append_left _ hx)
  have hA:=fun(x:Al) (hx:x∈alts)=>iY (hwp x.body (List.mem_append_right _ (List.mem_append_right _ (List.mem_map_of_mem hx)))) (g3 x hx) (hcp x.body (List.mem_append_right _ (List.mem_append_right _ (List.mem_map_of_mem hx)))) (hbp x.body (List.mem_append_right _ (List.mem_append_right _ (List.mem_map_of_mem hx))))
  have hkap:=hc.here
  simp only[Ex.alts] at hkap
  rw[B8] at hb
  have hbe:binds=[]:=by rcases q5 with h|h;exact absurd h h5;exact h
  subst hbe
  simp only[dp,List.length_nil] at hb
  have hpart:∀ i (h:i<ae.length),mI 1 K ae[i]+fC (fun x n=>en m x k n) ae n i≤N:=fun i h=>by
   have hst:=nu (ms (wI 1 K)) h
   rw[← qE,← qE] at hst
   obtain⟨-,t2,-,-⟩:=tn hF hk (ae.take i) n (fun x hx=>hL x (List.mem_of_mem_take hx)) (by omega)
   unfold fC
   simp only[mI]
   omega
  have hT:=fun(i:Nat) (h:i<ae.length)=>hI ae[i] k (fC (fun x n=>en m x k n) ae n i) (hL _ (List.getElem_mem h)).1 (hL _ (List.getElem_mem h)).2.1 hk (hL _ (List.getElem_mem h)).2.2 (hLb _ (List.getElem_mem h)) (hpart i h) _ sb g0 _ hQ'
  obtain⟨l1,l2,l3,l4⟩:=tn hF hk ae n hL (by omega)
  have hl:(aG (fun x n=>en m x k n) ae n).1.length=ae.length:=ek ..
  have hthr:=FM m k kd nm nn op names ae [] alts n
  rw[if_neg h5] at hthr
  generalize hSn:aG (fun x n=>en m x k n) ae n=S at*
  obtain⟨S1,n1⟩:=S
  dsimp only at l1 l2 l3 l4 hl hthr
  rw[hthr]
  have he':Gd cs P (.mk kd nm nn op names S1 [] alts):=(cO ..).2 ⟨by rw[hl];exact g0',l1,by simp,g3⟩
  have hwt':=wa K (.mk kd nm nn op names S1 [] alts)
  have hme:mO 1 K (.mk kd nm nn op names S1 [] alts)≤1+names.length+fw 1 K (fun _=>true) alts+eF (wO 1 K) S1+eO (wO 1 K) alts:=by
   have:=rG (c:=1) (K:=K) alts
   rw[fx];simp[dp];omega
  have hoi:eO (wO 1 K) alts≤eO (wI 1 K) alts:=DT K alts
  have hwb:(Ex.mk kd nm nn op names S1 [] alts).wt<137438953472:=by omega
  have hS1w:cn S1<137438953472:=by have:=Es K S1;omega
  have hS1l:=iS S1
  have hev:(Ex.mk kd nm nn op names S1 [] alts).sv= .agg [.int .i64 kd,.str nm,.int .i64 nn,.int .i64 op,.list 1 (names.map .str),.list 8 (ag S1),.list 9 (ad []),.list 12 (af alts)]:=rfl
  rw[Ft]
  refine Kq G hG (en m) kd nm nn op names ae [] alts n k kv h5 (by omega) sb g0 _ (fun nx=>Q nx++L) hQ' (fun hc nx=>hQ.cl hc nx) (fun nx L'=>hQ.Pz hkn nx L') hT S1 n1 hSn _ (fun h8 H=>?_) (fun h4 H=>?_) (fun h6 L2 h2=>?_) (fun h3=>?_) (fun h3 h4 h6 h8=>?_) (fun h6=>?_)
  ·rw[if_neg (by omega),if_pos h8,← hev]
   exact Gm G hG he' h8 (by simp only[Ex.ae];omega) H
  ·rw[if_neg (by omega),if_neg (by omega),if_pos h4,← hev]
   exact Lo G hG he' h4 hwb H
  ·rw[if_neg (by omega),if_neg (by omega),if_neg (by omega),if_pos h6,← hev]
   obtain rfl:nn=0:=by rcases q2 with h|h;(exfalso;omega);exact h
   obtain rfl:op=0:=by rcases q3 with h|h;(exfalso;omega);exact h
   obtain rfl:names=[]:=by rcases q4 with h|h;(exfalso;omega);exact h
   obtain⟨v,rfl⟩:∃ v,S1=[v]:=List.length_eq_one_iff.1 (by rw[hl,q7 (by omega)];rfl)
   subst h6
   simp only[eH,List.headD_cons]
   exact F4 G hG hit hPn hF hI hNb nm v alts k n1 he' hk hA hkap (by simp only[eF,List.length_nil,mO] at*;omega) (fun nx=>Q nx++L) sb g0 _ hQ' kv L2 h2
  ·obtain⟨v,rfl⟩:∃ v,S1=[v]:=List.length_eq_one_iff.1 (by rw[hl,q7 (by omega)];rfl)
   refine⟨v,rfl,?_⟩
   simp only[eq_true h3,if_true,eH,List.headD_cons]
   have hful:=g0'.wy
   unfold iH at hful
   have hnl:=hful.1 h3
   by_cases hv:v.kind=3
   ·simp only[eq_true hv,if_true]
    have hvg:=l1 v (List.mem_singleton_self _)
    have hvf:=uB hvg hv
    refine⟨trivial,hvf,by omega,?_⟩
    have h1:v.names.length≤v.wt:=by cases v;simp only[Ex.names,Ex.wt];omega
    simp only[Ex.wt,cn] at hwb
    omega
   ·simp only[eq_false hv,if_false]
    exact hev
  ·rw[if_neg h3,if_neg h8,if_neg h4,if_neg h6]
   exact hev
  ·by_cases h3:kd=3
   ·rw[if_pos h3]
   rw[if_neg h3]
   by_cases h8:kd=8
   ·rw[if_pos h8]
   rw[if_neg h8]
   by_cases h4:kd=4
   ·rw[if_pos h4]
   rw[if_neg h4,if_neg h6]
end
end
theorem Cy (G:Gl) (hG:ah G) (p:Pg) (hw:aV p.binds<137438953472) (H:List av):aq Tryz.prog G 51 [p.sv] H (fun r H'=>H'=H++[.cells 0 1 ((gr p.binds).map .str)]∧r= .sl H.length 0 0 (gr p.binds).length):=by
 obtain⟨cs0,l⟩:=p
 have c1:=fun H=>xP G hG (cX ct) l H (by decide) hw
 obtain⟨-,hi,hll⟩:=mW (cX ct) l
 have hbl:=cM l
 have hbc:=aR l
 have hcu:=aK H.length l
 have hre:gr l=cW (((dB (cX ct) l).map Int.toNat).map fun i=>(l.getD i mY).name):=by unfold gr;rw[List.map_map];rfl
 rw[hre]
 have hlv:((dB (cX ct) l).map Int.toNat).length≤l.length:=by rw[List.length_map];exact hll
 generalize (dB (cX ct) l).map Int.toNat=LV at*
 have hlm:(LV.map iv).length=LV.length:=List.length_map _
 have hgu:=nN H.length LV
 unfold gL at c1 hgu
 dsimp only at hw
 simp only[Pg.sv,Pg.cells]
 have hmv:(cX ct).sv= .agg [.int .i64 1,.str ct,.int .i64 0,.int .i64 0,.list 1 [],.list 8 [],.list 9 [],.list 12 []]:=rfl
 rw[hmv] at c1
 have hmn:ct=[77,97,105,110,46,109,97,105,110]:=rfl
 rw[hmn] at c1
 have hcn:SV.aj H.length (ay cs0)=true:=aX H.length cs0
 generalize ay cs0=cc at*
 refine bP [3] Tryz.func51 Tryz.ntmps51 fun C R' hR hC hcl hB hC' X=>?_
 have X:=And.intro aO hlm
 (refine run ?_)
 refine aA (fun i:Nat=>[(1,.ptr H.length 0 0 0),(3,.sl (H.length+1) 0 0 i),(9,.list 1 (LV.map iv)),(10,.int .i64 LV.length),(11,.int .i64 (i:Int))])
  (fun i=>H++[.cells 0 2 [.agg [.list 4 cc,.list 9 (ad l)]],.cells 0 1 (((LV.take i).map fun i=>(l.getD i mY).name).map .str)]) (fun i=>LV.length - i) (fun i=>i≤LV.length) 0 (Nat.zero_le _) ?_ ?_
 ·exact bI (n0:=H.length) [(H.length,0),(H.length+1,0)] hG hB hC' hcl
 rintro K i hi2 hK
 have hel:(((LV.take i).map fun i=>(l.getD i mY).name).map SV.str).length=i:=by rw[List.length_map,List.length_map,List.length_take];omega
 rcases Nat.lt_or_ge i LV.length with hlt|hge
 ·have hm:=hi _ (List.getElem_mem hlt)
  have hg1:(LV.map iv)[i]? =some (.int .i64 (LV[i]:Int)):=by rw[List.getElem?_map,List.getElem?_eq_getElem hlt];rfl
  have hg2:(ad l)[LV[i]]? =some (.agg (.str l[LV[i]].name::l[LV[i]].e.cells)):=by rw[az,List.getElem?_map,List.getElem?_eq_getElem hm,Option.map_some,Bd.sv,Bd.bf]
  have hsn:(((LV.take i).map fun i=>(l.getD i mY).name).map SV.str)++[.str l[LV[i]].name]=(((LV.take (i+1)).map fun i=>(l.getD i mY).name).map SV.str):=by
   have hgd:l.getD LV[i] mY=l[LV[i]]:=by rw[List.getD,List.getElem?_eq_getElem hm];rfl
   rw[List.take_succ_eq_append_getElem hlt,List.map_append,List.map_append,List.map_singleton,List.map_singleton,hgd]
  generalize l[LV[i]].e.cells=xe at*
  generalize l[LV[i]].name=xn at*
  generalize LV[i]=j at*
  have X:=FW aO hel hsn hlm hg1 hg2 hbc hm
  (refine run ?_;with_reducible repeat' first|exact trivial|(apply aJ.mk<;>intro hb)|apply bN.mk)
  refine hK _ _ (i+1) (by omega) (by omega) ?_
  exact bI (n0:=H.length) [(H.length,0),(H.length+1,0)] hG hB hC' hcl
 obtain rfl:i=LV.length:=by omega
 clear hK
 rw[List.take_length] at*
 generalize hNM:LV.map (fun i=>(l.getD i mY).name)=NM at*
 have hnl:NM.length=LV.length:=by rw[← hNM,List.length_map]
 have X:=iY aO hel hlm (Int.lt_irrefl (LV.length:Int))
 (refine run ?_)
 rw[← hnl]
 refine br (rR G (H.length+1) 0 NM _ (by rw[aH];rfl) (by omega)) ?_
 rintro r H' ⟨rfl,rfl⟩
 simp only[bW,List.set_cons_succ,List.set_cons_zero]
 have hsl:(cW NM).length=NM.length:=(List.mergeSort_perm NM _).length_eq
 have hsu:=bj H.length (cW NM)
 (refine run ?_)
 rw[show NM.length=(cW NM).length from hsl.symm]
 exact gD [(H.length+1,0)] (.sl H.length 0 0 (cW NM).length) [.cells 0 1 ((cW NM).map .str)] hR hC' hcl ⟨rfl,rfl⟩
theorem BJ (G:Gl) (hG:ah G) (f:SV) (p:Bd→Bool) (V:List Bd) (H:List av) (id:Nat) (ys:List SV) (hb0:H[id]? =some (.cells 0 9 (ad V++ys))) (hl:V.length<1125899906842624) (hfu:f.under H.length=true)
 (hf:∀ x∈V,aY Tryz.prog G f [x.sv] H (fun r H'=>H'=H∧r= .bool (p x))):
 aq Tryz.prog G 55 [.sl id 0 0 V.length,f] H (fun r H'=>H'=H∧r= .int .i64 (match V.findIdx? p with|some i=>(i:Int)|none=> -1)):=by
 have hlm:(ad V++ys).length=V.length+ys.length:=by rw[List.length_append,aR]
 have hlt:=(List.getElem?_eq_some_iff.1 hb0).1
 refine bP [] Tryz.func55 Tryz.ntmps55 fun C R' hR hC hcl hB hC' X=>?_
 have X:=fc X hb0 hlm
 have hcl1:=hcl
 (refine run ?_)
 refine aA (fun k:Nat=>[(0,.sl id 0 0 V.length),(1,f),(7,.int .i64 V.length),(8,.int .i64 k)]) (fun _=>H) (fun k=>V.length - k) (fun k=>k≤V.length∧∀ x∈V.take k,p x=false) 0 ⟨Nat.zero_le _,by simp⟩ (Wk.sub (by simp[aW,look])) ?_
 rintro K k ⟨hk,hno⟩ hK
 rcases Nat.lt_or_ge k V.length with hlt2|hge
 ·have e1:(ad V++ys)[k]? =some (.agg (.str V[k].name::V[k].e.cells)):=by
   rw[List.getElem?_append_left (by rw[aR];exact hlt2),az,List.getElem?_map,List.getElem?_eq_getElem hlt2,Option.map_some,Bd.sv,Bd.bf]
  have hfk:=hf V[k] (List.getElem_mem hlt2)
  have hsv:V[k].sv= .agg (.str V[k].name::V[k].e.cells):=by rw[Bd.sv,Bd.bf]
  rw[hsv] at hfk
  have X:=And.intro X e1
  (refine run ?_;with_reducible repeat' first|exact trivial|(apply aJ.mk<;>intro hb)|apply bN.mk)
  refine eS hfk ?_
  rintro r H' ⟨rfl,rfl⟩
  (refine run ?_;with_reducible repeat' first|exact trivial|(apply aJ.mk<;>intro hb)|apply bN.mk)
  ·have hfi:V.findIdx? p=some k:=by
    rw[List.findIdx?_eq_some_iff_getElem]
    refine⟨hlt2,by simpa using hb,fun j hj=>?_⟩
    have:=hno (V[j]'(by omega)) (by rw[List.mem_take_iff_getElem];exact⟨j,by omega,rfl⟩)
    simp[this]
   refine Fin.out hR ⟨rfl,?_⟩
   simp only[aC,hfi]
  ·refine hK _ _ (k+1) (by omega) ⟨by omega,?_⟩ (Wk.sub (by simp[aW,look]))
   rw[List.take_succ_eq_append_getElem hlt2]
   intro x hx
   rcases List.mem_append.1 hx with hx|hx
   ·exact hno x hx
   ·rw[List.mem_singleton.1 hx];exact hb
 ·have:k=V.length:=by omega
  subst this
  clear hK
  have X:=And.intro X (Int.lt_irrefl (V.length:Int))
  (refine run ?_)
  have hfi:V.findIdx? p=none:=by rw[List.findIdx?_eq_none_iff];rw[List.take_length] at hno;exact hno
  refine Fin.out hR ⟨rfl,?_⟩
  simp only[aC,hfi]
theorem JW (G:Gl) (hG:ah G) (L:List aD) (hL:L.length<1125899906842624) (b:Bd) (H:List av) (rb:Nat) (hr:H[rb]? =some (.cells 0 1 [.list 1 (L.map .str)])):
 aq Tryz.prog G 53 [b.sv,.ptr rb 0 0 0] H (fun r H'=>H'=H∧r= .bool (!decide (b.name∈L))):=by
 have hrt:=(List.getElem?_eq_some_iff.1 hr).1
 obtain⟨x,e⟩:=b
 have c1:=fun H=>gR G L x H (by omega)
 rw[show(Bd.mk x e).sv= .agg (.str x::e.cells) from by rw[Bd.sv,Bd.bf];rfl]
 have hx8:=e.au
 have hxT:=e.ao
 have hxu:=e.aw H.length
 generalize e.cells=xe at*
 simp only[Bd.name]
 refine bP [] Tryz.func53 Tryz.ntmps53 fun C R' hR hC hcl hB hC' X=>?_
 have X:=iY aO hr hx8 hxT
 (refine run ?_)
 exact Fin.aS (n0:=H.length) hR rfl (by rw[hC]) hcl (.same _ rfl) ⟨rfl,by simp only[aC];by_cases hh:x∈L<;>simp[hh]⟩
theorem JX (G:Gl) (hG:ah G) (b:Bd) (H:List av):aq Tryz.prog G 56 [b.sv] H (fun r H'=>H'=H∧r= .bool (wj b)):=by
 obtain⟨x,e⟩:=b
 obtain⟨ak,an,ann,aop,ans,ass,abs',aas⟩:=e
 rw[show(Bd.mk x (.mk ak an ann aop ans ass abs' aas)).sv= .agg [.str x,.int .i64 ak,.str an,.int .i64 ann,.int .i64 aop,.list 1 (ans.map .str),.list 8 (ag ass),.list 9 (ad abs'),.list 12 (af aas)] from by rw[Bd.sv,Bd.bf];rfl]
 have hal:wj (.mk x (.mk ak an ann aop ans ass abs' aas))=(!decide (x=ct)&&(decide (ak=2)||(decide (ak=1)&&!decide (an=x)))):=rfl
 rw[hal]
 have hmn:ct=[77,97,105,110,46,109,97,105,110]:=rfl
 rw[hmn]
 refine bP [] Tryz.func56 Tryz.ntmps56 fun C R' hR hC hcl hB hC' X=>?_
 by_cases h1:x=[77,97,105,110,46,109,97,105,110]
 ·have X:=And.intro aO h1
  (refine run ?_)
  all_goals exact Fin.aS (n0:=H.length) hR rfl (by rw[hC]) hcl (.same _ rfl) ⟨rfl,by simp[h1,aC,pk]⟩
 ·by_cases h2:ak=2
  ·have X:=fc aO h1 h2
   (refine run ?_)
   all_goals exact Fin.aS (n0:=H.length) hR rfl (by rw[hC]) hcl (.same _ rfl) ⟨rfl,by simp[h1,h2,aC,pk]⟩
  ·by_cases h3:ak=1
   ·by_cases h4:an=x
    ·have X:=j8 aO h1 h2 h3 h4
     (refine run ?_)
     all_goals exact Fin.aS (n0:=H.length) hR rfl (by rw[hC]) hcl (.same _ rfl) ⟨rfl,by simp[h1,h2,h3,h4,aC,pk]⟩
    ·have X:=j8 aO h1 h2 h3 h4
     (refine run ?_)
     all_goals exact Fin.aS (n0:=H.length) hR rfl (by rw[hC]) hcl (.same _ rfl) ⟨rfl,by simp[h1,h2,h3,h4,aC,pk]⟩
   ·have X:=iY aO h1 h2 h3
    (refine run ?_)
    all_goals exact Fin.aS (n0:=H.length) hR rfl (by rw[hC]) hcl (.same _ rfl) ⟨rfl,by simp[h1,h2,h3,aC,pk]⟩
theorem Lu (G:Gl) (hG:ah G) (f:SV) (p:Bd→Bool) (V:List Bd) (H:List av) (id:Nat) (hb0:H[id]? =some (.cells 0 9 (ad V))) (hl:V.length<137438953472) (hfu:f.under H.length=true)
 (hf:∀ x∈V,∀ Y X,aY Tryz.prog G f [x.sv] (H.set id Y++X) (fun r H'=>H'=H.set id Y++X∧r= .bool (p x))):
 aq Tryz.prog G 52 [.sl id 0 0 V.length,f] H (fun r H'=>∃ k,H'=H.set id (.cells 0 9 (ad (V.filter fun b=>!p b)++List.replicate k (.agg [.str [],.int .i64 0,.str [],.int .i64 0,.int .i64 0,.list 1 [],.list 8 [],.list 9 [],.list 12 []])))∧r= .sl id 0 0 (V.filter fun b=>!p b).length):=by
 have hlt:=(List.getElem?_eq_some_iff.1 hb0).1
 have hsame:H.set id (.cells 0 9 (ad V))=H:=dM hb0
 have hidx:=BJ G hG f p V H id [] (by rw[List.append_nil];exact hb0) (by omega) hfu (fun x hx=>by
  have:=hf x hx (.cells 0 9 (ad V)) []
  rw[hsame,List.append_nil] at this
  exact this)
 have hbc:=aR V
 refine bP [] Tryz.func52 Tryz.ntmps52 fun C R' hR hC hcl hB hC' X=>?_
 have X:=fc aO hb0 hbc
 (refine run ?_)
 refine br hidx ?_
 rintro r H2 ⟨h2,rfl⟩
 rw[h2]
 clear h2 H2
 cases hfi:V.findIdx? p with
 |none=>
  have hall:V.filter (fun b=>!p b)=V:=List.filter_eq_self.2 fun b hb=>by
   have:=List.findIdx?_eq_none_iff.1 hfi b hb
   rw[this];rfl
  rw[hall] at hR
  simp only
  (refine run ?_)
  exact Fin.out hR ⟨0,by rw[List.replicate_zero,List.append_nil,hsame],rfl⟩
 |some i0=>
  simp only
  obtain⟨hi0,hpi,hpb⟩:=List.findIdx?_eq_some_iff_getElem.1 hfi
  have hne:¬ (i0:Int)= -1:=by omega
  have X:=iY aO hb0 hbc hne
  (refine run ?_)
  have hkc:∀ j,j≤V.length→((V.take j).filter fun b=>!p b).length≤j:=fun j hj=>Nat.le_trans (List.length_filter_le _ _) (by rw[List.length_take];omega)
  have ht:(V.take (i0+1)).filter (fun b=>!p b)=V.take i0:=by
   rw[List.take_succ_eq_append_getElem hi0,List.filter_append]
   have h1:(V.take i0).filter (fun b=>!p b)=V.take i0:=List.filter_eq_self.2 fun b hb=>by
    obtain⟨q,hq,rfl⟩:=List.mem_iff_getElem.1 hb
    rw[List.getElem_take]
    have:=hpb q (by rw[List.length_take] at hq;omega)
    simpa using this
   rw[h1]
   simp[hpi]
  have hall:ad ((V.take (i0+1)).filter fun b=>!p b)++(ad [V[i0]]++ad (V.drop (i0+1)))=ad V:=by
   rw[ht,az,az,az,az]
   have e:V=V.take i0++V[i0]::V.drop (i0+1):=by rw[← List.drop_eq_getElem_cons hi0,List.take_append_drop]
   have e2:V.map Bd.sv=(V.take i0++V[i0]::V.drop (i0+1)).map Bd.sv:=congrArg _ e
   rw[e2,List.map_append,List.map_cons];rfl
  have hkl0:((V.take (i0+1)).filter fun b=>!p b).length=i0:=by rw[ht,List.length_take];omega
  refine aA (fun a:Nat×List Bd×List av=>[(0,.sl id 0 0 V.length),(1,f),(5,.int .i64 (((V.take a.1).filter fun b=>!p b).length:Nat)),(6,.int .i64 (a.1:Nat))])
   (fun a=>H.set id (.cells 0 9 (ad ((V.take a.1).filter fun b=>!p b)++(ad a.2.1++ad (V.drop a.1))))++a.2.2) (fun a=>V.length - a.1)
   (fun a=>a.1≤V.length∧((V.take a.1).filter fun b=>!p b).length+a.2.1.length=a.1∧0<a.2.1.length) (i0+1,[V[i0]],[]) ⟨by dsimp only;omega,?_,by simp⟩ ?_ ?_
  ·rw[ht,List.length_take]
   show min i0 V.length+1=i0+1
   omega
  ·dsimp only
   rw[hall,hsame,List.append_nil,hkl0]
   exact Wk.sub (by simp[aW,look])
  rintro K ⟨j,J,X0⟩ ⟨hj,hJl,hJp⟩ hK
  dsimp only at hj hJl hJp ⊢
  generalize hKf:(V.take j).filter (fun b=>!p b)=KL at*
  rcases Nat.lt_or_ge j V.length with hlt2|hge
  ·have hcl2:(ad KL++(ad J++ad (V.drop j))).length=V.length:=by simp only[List.length_append,aR,List.length_drop];omega
   have hg:(ad KL++(ad J++ad (V.drop j)))[j]? =some (.agg (.str V[j].name::V[j].e.cells)):=by
    rw[List.getElem?_append_right (by rw[aR];omega),List.getElem?_append_right (by rw[aR,aR];omega),aR,aR,az (V.drop j),List.getElem?_map,List.getElem?_drop,
     show j+(j - KL.length - J.length)=j by omega,List.getElem?_eq_getElem hlt2,Option.map_some,Bd.sv,Bd.bf]
   obtain⟨Q,hQd⟩:∃ Q:List SV→List av,∀ Y,Q Y=H.set id (.cells 0 9 Y)++X0:=⟨_,fun _=>rfl⟩
   obtain⟨m,hm⟩:∃ m,m=H.length+X0.length:=⟨_,rfl⟩
   have hq0:∀ Y,(Q Y).length=m:=fun Y=>by rw[hQd,hm,List.length_append,List.length_set]
   have hq1:∀ Y L,(Q Y++L)[id]? =some (.cells 0 9 Y):=fun Y L=>by
    rw[hQd,List.append_assoc,List.getElem?_append_left (by rw[List.length_set];exact hlt),List.getElem?_set_self hlt]
   have hq3:∀ Y Y' L,(Q Y++L).set id (.cells 0 9 Y')=Q Y'++L:=fun Y Y' L=>by
    rw[hQd,hQd,List.append_assoc,List.append_assoc,List.set_append,if_pos (by rw[List.length_set];exact hlt),List.set_set]
   have hq4:∀ Y L,(Q Y++L)[m]? =L[0]? :=fun Y L=>by rw[← hq0 Y];exact bL _ _
   have hq5:∀ Y L x,(Q Y++L).set m x=Q Y++L.set 0 x:=fun Y L x=>by rw[← hq0 Y];exact du _ _ _
   have hfk:∀ Y L,aY Tryz.prog G f [.agg (.str V[j].name::V[j].e.cells)] (Q Y++L) (fun r H'=>H'=Q Y++L∧r= .bool (p V[j])):=fun Y L=>by
    have:=hf V[j] (List.getElem_mem hlt2) (.cells 0 9 Y) (X0++L)
    rw[← List.append_assoc,← hQd,Bd.sv,Bd.bf] at this
    exact this
   rw[← hQd]
   have hidm:id<m:=by omega
   have hx8:=V[j].e.au
   have hxT:=V[j].e.ao
   have hkl:KL.length<V.length:=by omega
   have hkb:KL.length<137438953472:=by omega
   have v1:=hfk
   have hq2:=hq0
   rw[show Q (ad KL++(ad J++ad (V.drop j)))=Q (ad KL++(ad J++ad (V.drop j)))++[] from(List.append_nil _).symm]
   generalize hW:ad KL++(ad J++ad (V.drop j))=W at*
   generalize hxe:V[j].e.cells=xe at*
   generalize hxn:V[j].name=xn at*
   have haz:m+0=m:=rfl
   have X:=wh (And.intro aO haz) hq0 hq1 hq3 hq4 hq5 hcl2 hg hx8 hxT
   have hdr:ad (V.drop j)= .agg (.str xn::xe)::ad (V.drop (j+1)):=by
    rw[List.drop_eq_getElem_cons hlt2,az,List.map_cons,Bd.sv,Bd.bf,hxe,hxn,az]
   have hJs:ad (J++[V[j]])++ad (V.drop (j+1))=ad J++ad (V.drop j):=by
    rw[List.drop_eq_getElem_cons hlt2]
    simp only[az,List.map_append,List.map_cons,List.map_nil,List.append_assoc,List.singleton_append]
   have hft:(V.take (j+1)).filter (fun b=>!p b)=KL++[V[j]].filter (fun b=>!p b):=by rw[List.take_succ_eq_append_getElem hlt2,List.filter_append,hKf]
   cases hpv:p V[j] with
   |true=>
    rw[hpv] at v1
    have hft2:(V.take (j+1)).filter (fun b=>!p b)=KL:=by rw[hft];simp[hpv]
    (refine run ?_;with_reducible repeat' first|exact trivial|(apply aJ.mk<;>intro hb)|apply bN.mk)
    refine hK _ _ (j+1,J++[V[j]],X0++[.cells 0 9 [.agg (.str xn::xe)]]) (by dsimp only;omega) ⟨by dsimp only;omega,by dsimp only;rw[hft2,List.length_append];simp only[List.length_cons,List.length_nil];omega,by dsimp only;rw[List.length_append];omega⟩ ?_
    dsimp only
    rw[hft2,← List.append_assoc (H.set _ _),← hQd,hJs,hW]
    exact Wk.sub (by simp[aW,look])
   |false=>
    rw[hpv] at v1
    obtain⟨z,J1,rfl⟩:∃ z J1,J=z::J1:=by
     cases J with
     |nil=>exact absurd hJp (by simp)
     |cons z J1=>exact⟨z,J1,rfl⟩
    have hgk:W[KL.length]? =some (.agg (.str z.name::z.e.cells)):=by
     rw[← hW,List.getElem?_append_right (by rw[aR];exact Nat.le_refl _),aR,Nat.sub_self,az];simp[Bd.sv,Bd.bf]
    have hz8:=z.e.au
    have hzT:=z.e.ao
    have hzD:=z.e.ij
    generalize z.e.cells=ze at*
    have X:=oD X hgk hkl hz8 hzT hzD
    have hvs:V[j].sv= .agg (.str xn::xe):=by rw[Bd.sv,Bd.bf,hxe,hxn]
    have hft2:(V.take (j+1)).filter (fun b=>!p b)=KL++[V[j]]:=by rw[hft];simp[hpv]
    have hset:W.set KL.length (.agg (.str xn::xe))=ad (KL++[V[j]])++(ad (J1++[V[j]])++ad (V.drop (j+1))):=by
     rw[← hW,List.set_append,if_neg (by rw[aR];omega),aR,Nat.sub_self,List.drop_eq_getElem_cons hlt2,← hvs]
     simp only[az,List.map_append,List.map_cons,List.map_nil,List.append_assoc,List.singleton_append,List.cons_append,List.set_cons_zero,List.nil_append]
    (refine run ?_;with_reducible repeat' first|exact trivial|(apply aJ.mk<;>intro hb)|apply bN.mk)
    refine hK _ _ (j+1,J1++[V[j]],X0++[.cells 0 9 [.agg (.str xn::xe)]]) (by dsimp only;omega) ⟨by dsimp only;omega,by dsimp only;rw[hft2,List.length_append,List.length_append];simp only[List.length_cons,List.length_nil] at*;omega,by dsimp only;rw[List.length_append];simp only[List.length_cons,List.length_nil];omega⟩ ?_
    dsimp only
    rw[hft2,← List.append_assoc (H.set _ _),← hQd,← hset,List.length_append]
    exact Wk.sub (by simp[aW,look])
  obtain rfl:j=V.length:=by omega
  clear hK
  rw[List.take_length] at hKf
  rw[hKf] at hR
  rw[List.drop_length,show ad ([]:List Bd)=[] by simp[az],List.append_nil]
  have hcl2:(ad KL++ad J).length=V.length:=by simp only[List.length_append,aR];omega
  have hkl:KL.length≤V.length:=by omega
  have hsubt:V.length - KL.length=J.length:=by omega
  have hxs:H.length=H.length:=rfl
  have hx1:∀ Y L,(H.set id (.cells 0 9 Y)++L)[id]? =some (.cells 0 9 Y):=fun Y L=>by
   rw[List.getElem?_append_left (by rw[List.length_set];exact hlt),List.getElem?_set_self hlt]
  have hx3:∀ Y Y' L,(H.set id (.cells 0 9 Y)++L).set id (.cells 0 9 Y')=H.set id (.cells 0 9 Y')++L:=fun Y Y' L=>by
   rw[List.set_append,if_pos (by rw[List.length_set];exact hlt),List.set_set]
  have hirr:=Int.lt_irrefl (V.length:Int)
  have htk:List.take KL.length (ad KL++ad J)=ad KL:=List.take_left' (aR _)
  have X:=eu aO hx1 hx3 hcl2 hkl hirr htk
  (refine run ?_)
  rw[List.drop_of_length_le (by rw[hcl2];omega),List.append_nil,Nat.sub_zero]
  have hrep:∀ k,SV.aj H.length (List.replicate k (.agg [.str [],.int .i64 0,.str [],.int .i64 0,.int .i64 0,.list 1 [],.list 8 [],.list 9 [],.list 12 []]))=true:=fun k=>by
   induction k with
   |zero=>rfl
   |succ k ih=>rw[List.replicate_succ];simp only[SV.aj,SV.under,ih,Bool.and_self]
  have hcl3:closed (H.set id (.cells 0 9 (ad KL++List.replicate (V.length - KL.length) (.agg [.str [],.int .i64 0,.str [],.int .i64 0,.int .i64 0,.list 1 [],.list 8 [],.list 9 [],.list 12 []])))):=by
   refine hcl.set ?_
   show SV.aj H.length _=true
   rw[SV.cK,aK,hrep];rfl
  exact Fin.aS (n0:=H.length) hR (List.length_set ..) hC' hcl3 (.same _ (by simp only[aC,SV.under,decide_eq_true_eq];exact hlt)) ⟨_,rfl,rfl⟩
theorem NT (G:Gl) (hG:ah G) (V:List Bd) (ys:List SV) (i:Nat) (hi:i<V.length) (hl:V.length<137438953472) (H:List av) (id:Nat) (hb0:H[id]? =some (.cells 0 9 (ad V++ys))):
 aq Tryz.prog G 57 [.sl id 0 0 V.length,.int .i64 i,.int .i64 ((i:Int)+1)] H (fun r H'=>∃ zs,H'=H.set id (.cells 0 9 (ad (V.eraseIdx i)++zs))∧r= .sl id 0 0 (V.length - 1)):=by
 have hlt:=(List.getElem?_eq_some_iff.1 hb0).1
 have hbc:=aR V
 have hlc:(ad V++ys).length=V.length+ys.length:=by rw[List.length_append,hbc]
 have hne:¬ (i:Int)=(i:Int)+1:=by omega
 refine bP [] Tryz.func57 Tryz.ntmps57 fun C R' hR hC hcl hB hC' X=>?_
 have hx1:∀ L,(H++L)[id]? =some (.cells 0 9 (ad V++ys)):=fun L=>by rw[List.getElem?_append_left hlt];exact hb0
 have hx3:∀ L b,(H++L).set id b=H.set id b++L:=fun L b=>by rw[List.set_append,if_pos hlt]
 have hi0:i - 0=i:=rfl
 have htn:((i:Int)+1).toNat=i+1:=by omega
 have hsz:∀ k,k=V.length - (i+1)→i+k=V.length - 1:=fun k hk=>by omega
 have hsd:i+(V.length - (i+1))=V.length - 1:=by omega
 have htl:(List.take (V.length - (i+1)) (List.drop (i+1) (ad V++ys))).length=V.length - (i+1):=by rw[List.length_take,List.length_drop,hlc];omega
 have hbd:(V.length - 1)*136≤70368744177664:=by omega
 have hbd2:(V.length - 1)*144≤70368744177664:=by omega
 have hbd3:(V.length - 1)*152≤70368744177664:=by omega
 have hle1:V.length - 1≤V.length+ys.length:=by omega
 have X:=ND (iY aO hx1 hx3 hi0) hb0 hlc hne hi htn hsd htl hbd hbd2 hbd3 hle1
 (refine run ?_)
 unfold ll
 dsimp only
 refine Jt (v:= .sl id 0 0 (V.length - 1)) (H':=H.set id (.cells 0 9 (ad (V.eraseIdx i)++List.drop (V.length - 1) (ad V++ys)))++[.dead]) ?_ ?_
 ·have htk:List.take (V.length - (i+1)) (List.drop (i+1) (ad V++ys))=ad (V.drop (i+1)):=by
   rw[List.drop_append_of_le_length (by omega),List.take_append_of_le_length (by rw[List.length_drop];omega),List.take_of_length_le (by rw[List.length_drop];omega)]
   simp only[az,List.map_drop]
  have htk2:List.take i (ad V++ys)=ad (V.take i):=by
   rw[List.take_append_of_le_length (by omega)]
   simp only[az,List.map_take]
  have her:ad (V.eraseIdx i)=ad (V.take i)++ad (V.drop (i+1)):=by
   rw[List.eraseIdx_eq_take_drop_succ]
   simp only[az,List.map_append]
  simp[Qy,go_sem,hx1,hx3,X,ob,dO]
  have hdl:(ad (V.drop (i+1))).length=V.length - (i+1):=by rw[aR,List.length_drop]
  simp only[Le,htk,hdl,cG,hx1,hx3,ob,dO,her,Nat.zero_add,hsd,htk2,hlc]
  simp only[if_true,Option.bind_some,htk2,hlc]
  rw[if_pos ⟨⟨by decide,trivial⟩,hbd3,by decide,hle1⟩]
 ·generalize hZ:ad (V.eraseIdx i)++List.drop (V.length - 1) (ad V++ys)=Z at*
  have hzl:Z.length=V.length+ys.length:=by
   rw[← hZ,List.length_append,aR,List.length_drop,hlc,List.length_eraseIdx,if_pos hi];omega
  have hy1:∀ Y L,(H.set id (.cells 0 9 Y)++L)[id]? =some (.cells 0 9 Y):=fun Y L=>by
   rw[List.getElem?_append_left (by rw[List.length_set];exact hlt),List.getElem?_set_self hlt]
  have hy3:∀ Y Y' L,(H.set id (.cells 0 9 Y)++L).set id (.cells 0 9 Y')=H.set id (.cells 0 9 Y')++L:=fun Y Y' L=>by
   rw[List.set_append,if_pos (by rw[List.length_set];exact hlt),List.set_set]
  have X:=iY aO hy1 hy3 hzl
  (refine run ?_)
  have hel:(ad (V.eraseIdx i)).length=V.length - 1:=by rw[aR,List.length_eraseIdx,if_pos hi]
  have hzt:List.take (V.length - 1) Z=ad (V.eraseIdx i):=by rw[← hZ];exact List.take_left' hel
  have hu0:SV.aj H.length (ad V++ys)=true:=hcl _ (List.mem_of_getElem? hb0)
  have hud:∀ (k:Nat) (l:List SV),SV.aj H.length l=true→SV.aj H.length (l.drop k)=true:=fun k l h=>by
   rw[← List.take_append_drop k l,SV.cK,Bool.and_eq_true] at h
   exact h.2
  have huZ:SV.aj H.length Z=true:=by rw[← hZ,SV.cK,aK,hud _ _ hu0];rfl
  have hrep:∀ k,SV.aj H.length (List.replicate k (.agg [.str [],.int .i64 0,.str [],.int .i64 0,.int .i64 0,.list 1 [],.list 8 [],.list 9 [],.list 12 []]))=true:=fun k=>by
   induction k with
   |zero=>rfl
   |succ k ih=>rw[List.replicate_succ];simp only[SV.aj,SV.under,ih,Bool.and_self]
  rw[hzt]
  have hcl3:closed (H.set id (.cells 0 9 (ad (V.eraseIdx i)++(List.replicate (V.length - (V.length - 1)) (.agg [.str [],.int .i64 0,.str [],.int .i64 0,.int .i64 0,.list 1 [],.list 8 [],.list 9 [],.list 12 []])++List.drop (V.length - 1+(V.length - (V.length - 1))) Z)))):=by
   refine hcl.set ?_
   show SV.aj H.length _=true
   rw[SV.cK,SV.cK,aK,hrep,hud _ _ huZ];rfl
  exact Fin.aS (n0:=H.length) hR (List.length_set ..) hC' hcl3 (.same _ (by simp only[aC,SV.under,decide_eq_true_eq];exact hlt)) ⟨_,rfl,rfl⟩
section
theorem xS:∀ (l L:List aD),l.Nodup→(∀ x∈l,x∈L)→l.length≤L.length
 |[],L,_,_=>Nat.zero_le _
 |x::r,L,h,hs=>by
  obtain⟨a,b,rfl⟩:=List.append_of_mem (hs x (List.mem_cons_self ..))
  rw[List.nodup_cons] at h
  have:=xS r (a++b) h.2 (fun y hy=>by
   have:=hs y (List.mem_cons_of_mem _ hy)
   rw[List.mem_append,List.mem_cons] at this
   rw[List.mem_append]
   rcases this with h1|h1|h1
   ·exact .inl h1
   ·exact absurd (h1 ▸ hy) h.1
   ·exact .inr h1)
  simp only[List.length_append,List.length_cons] at this ⊢
  omega
theorem uv:∀ {l:List Cn} {s:aD} {c:Cn},eN l s=some c→c∈l∧c.name=s
 |d::r,s,c,h=>by
  rw[eN] at h
  split at h
  ·rename_i h2
   obtain rfl:=Option.some.inj h
   exact⟨List.mem_cons_self ..,h2.symm⟩
  ·obtain⟨h1,h2⟩:=uv h
   exact⟨List.mem_cons_of_mem _ h1,h2⟩
theorem EY {cs:List Cn} {s:aD} {k:Int} (h:ew cs s k=true):∃ c∈cs,c.name=s∧c.arity=k:=by
 unfold ew fK at h
 rw[Bool.and_eq_true] at h
 cases hf:eN cs s with
 |none=>rw[hf] at h;cases h.1
 |some c=>
  rw[hf] at h
  obtain⟨h1,h2⟩:=uv hf
  exact⟨c,h1,h2,of_decide_eq_true h.2⟩
theorem F7 {cs:List Cn} (h:ga [] cs=true) {c:Cn} (hc:c∈cs):c.arity≤100:=by
 rw[xU,List.all_eq_true] at h
 obtain⟨i,hi,rfl⟩:=List.mem_iff_getElem.1 hc
 have:=h i (List.mem_range.2 hi)
 rw[List.getD_eq_getElem?_getD,List.getElem?_eq_getElem hi] at this
 simp only[Option.getD_some,zP,Bool.not_eq_true',Bool.or_eq_false_iff,decide_eq_false_iff_not] at this
 omega
theorem xC {cs:List Cn} (h:ga [] cs=true) {s:aD} {k:Nat} (hh:ew cs s k=true):k≤100:=by
 obtain⟨c,h1,h2,h3⟩:=EY hh
 have:=F7 h h1
 omega
theorem BY:∀ a b:List Al,fk (a++b)=fk a+fk b
 |[],b=>by simp[fk]
 |x::a,b=>by simp only[List.cons_append,fk,BY a b];omega
theorem zn (m:Nat):∀ l:List Al,(∀ a∈l,a.names.length≤m)→fk l≤(2*m+4)*l.length
 |[],_=>Nat.zero_le _
 |a::r,h=>by
  have h1:=h a (List.mem_cons_self ..)
  have h2:=zn m r fun x hx=>h x (List.mem_cons_of_mem _ hx)
  simp only[fk,List.length_cons,Nat.mul_add,Nat.mul_one]
  omega
theorem Fx (cs:List Cn) (k0:Int) (s0:aD):∀ (r l:List Al),jv cs k0 s0 l r=false→(∀ a∈r,a.kind=k0)∧(k0=1→(r.map Al.name).Nodup∧∀ a∈r,a.name∉l.map Al.name)
 |[],l,_=>⟨(fun a h=>absurd h List.not_mem_nil),fun _=>⟨List.nodup_nil,fun a h=>absurd h List.not_mem_nil⟩⟩
 |a::r,l,h=>by
  rw[jv,Bool.or_eq_false_iff] at h
  obtain⟨h1,h2⟩:=h
  obtain⟨i1,i2⟩:=Fx cs k0 s0 r (l++[a]) h2
  simp only[vj,Bool.or_eq_false_iff,Bool.and_eq_false_iff,decide_eq_false_iff_not,Bool.not_eq_false',decide_eq_true_eq] at h1
  obtain⟨⟨⟨⟨a1,a2⟩,a3⟩,a4⟩,a5⟩:=h1
  refine⟨fun x hx=>?_,fun h0=>?_⟩
  ·rcases List.mem_cons.1 hx with rfl|hx
   ·exact a2
   ·exact i1 x hx
  ·obtain⟨j1,j2⟩:=i2 h0
   have ha:a.name∉l.map Al.name:=by
    rcases a3 with h|h
    ·exact h
    ·exact absurd (a2.trans h0) h
   refine⟨?_,fun x hx=>?_⟩
   ·rw[List.map_cons,List.nodup_cons]
    refine⟨fun hm=>?_,j1⟩
    obtain⟨y,hy,he⟩:=List.mem_map.1 hm
    exact j2 y hy (by rw[List.map_append,List.mem_append,he];exact .inr (List.mem_singleton_self _))
   ·rcases List.mem_cons.1 hx with rfl|hx
    ·exact ha
    ·exact fun hm=>j2 x hx (by rw[List.map_append,List.mem_append];exact .inl hm)
theorem vy (l:List Al):l=fP l∨∃ d:Al,d.kind=3∧l=fP l++[d]:=by
 unfold fP
 by_cases h:l.length=0
 ·rw[if_pos h];exact .inl rfl
 ·rw[if_neg h]
  by_cases h3:(l.getLast?.map Al.kind).getD 0=3
  ·rw[if_pos h3]
   have hne:l≠[]:=fun e=>h (by rw[e];rfl)
   rw[List.getLast?_eq_some_getLast hne] at h3
   refine .inr ⟨l.getLast hne,h3,?_⟩
   rw[← List.dropLast_eq_take,List.dropLast_concat_getLast]
  ·rw[if_neg h3];exact .inl rfl
section
variable {cs:List Cn} {P:aD→Prop}
theorem Of {e:Ex} (hg:Gd cs P e) (hcs:ga [] cs=true) (hl:cs.length≤1000) (hch:sP cs e=true) (hn:e.alts.length≤100000):fk e.alts≤400004:=by
 by_cases hk:e.kind=6
 rotate_left
 ·have h1:=hg.loc.Ap
  unfold jN at h1
  have:e.alts=[]:=List.length_eq_zero_iff.1 (by omega)
  rw[this]
  exact Nat.zero_le _
 have ha:=fun a (h:a∈e.alts)=>iR hg h
 unfold sP at hch
 rw[if_neg (by omega),Bool.and_eq_true,Bool.not_eq_true'] at hch
 obtain⟨o1,o2⟩:=Fx _ _ _ _ _ hch.1
 have hrm:∀ a∈fP e.alts,a∈e.alts:=fun a h=>by
  rcases vy e.alts with h1|⟨d,-,h1⟩
  ·rw[h1];exact h
  ·rw[h1];exact List.mem_append_left _ h
 have hrl:(fP e.alts).length≤100000:=by
  rcases vy e.alts with h1|⟨d,-,h1⟩
  ·rw[← h1];exact hn
  ·have:=congrArg List.length h1
   rw[List.length_append] at this
   omega
 have hkr:fk (fP e.alts)≤400000:=by
  by_cases h1:Mb (fP e.alts)=1
  ·obtain⟨n1,-⟩:=o2 h1
   have hle:=xS _ (cs.map Cn.name) n1 (fun s hs=>by
    obtain⟨a,h,rfl⟩:=List.mem_map.1 hs
    rcases ha a (hrm a h) with⟨-,h3⟩|⟨h3,-⟩
    ·obtain⟨c,hc,he,-⟩:=EY h3
     exact List.mem_map.2 ⟨c,hc,he⟩
    ·exact absurd ((o1 a h).trans h1) h3)
   rw[List.length_map,List.length_map] at hle
   have:=zn 100 (fP e.alts) (fun a h=>by
    rcases ha a (hrm a h) with⟨-,h3⟩|⟨-,h3⟩
    ·exact xC hcs h3
    ·rw[h3];exact Nat.zero_le _)
   omega
  ·have:=zn 0 (fP e.alts) (fun a h=>by
    rcases ha a (hrm a h) with⟨h3,-⟩|⟨-,h3⟩
    ·exact absurd ((o1 a h).symm.trans h3) h1
    ·rw[h3];exact Nat.le_refl _)
   omega
 rcases vy e.alts with h1|⟨d,hd,h1⟩
 ·rw[h1];omega
 ·have hdn:d.names=[]:=by
   rcases ha d (by rw[h1];exact List.mem_append_right _ (List.mem_singleton_self _)) with⟨h3,-⟩|⟨-,h3⟩
   ·omega
   ·exact h3
  rw[h1,BY]
  simp only[fk,hdn,List.length_nil]
  omega
theorem G8 (k:Int) (s:aD) (n o:Int) (ns:List aD) (ae:List Ex) (binds:List Bd) (alts:List Al):ae.length+binds.length+alts.length<(Ex.mk k s n o ns ae binds alts).size:=by
 have h:=(Ex.mk k s n o ns ae binds alts).jE
 have hl:∀ l:List Ex,l.length≤(l.map Ex.size).sum:=fun l=>by
  induction l with
  |nil=>exact Nat.zero_le _
  |cons x r ih=>have:=x.size_pos;simp only[List.length_cons,List.map_cons,List.sum_cons];omega
 have h2:=hl (Ex.mk k s n o ns ae binds alts).parts
 rw[Ex.ck] at h2
 simp only[List.length_append,List.length_map] at h2
 rw[Ex.ck] at h
 omega
theorem G9 {e p:Ex} (h:p∈e.parts):p.size≤e.size:=by
 have h1:=e.jE
 have:p.size≤(e.parts.map Ex.size).sum:=by
  generalize e.parts=l at*
  clear h1
  induction l with
  |nil=>cases h
  |cons x r ih=>
   simp only[List.map_cons,List.sum_cons]
   rcases List.mem_cons.1 h with rfl|h
   ·omega
   ·have:=ih h;omega
 omega
theorem LS {e p:Ex} (h:Gd cs P e) (hp:p∈e.parts):Gd cs P p:=by
 obtain⟨kd,nm,nn,op,names,ae,binds,alts⟩:=e
 rw[Ex.ck] at hp
 simp only[List.mem_append,List.mem_map] at hp
 rcases hp with hp|⟨b,hb,rfl⟩|⟨a,ha,rfl⟩
 ·exact h.sub p hp
 ·exact h.bind b hb
 ·exact h.alt a ha
theorem EC (hcs:ga [] cs=true) (hl:cs.length≤1000):∀ (m:Nat) (e:Ex),e.wt≤m→Gd cs P e→eM (sP cs) e=true→e.size≤100000→KC 800010 e∧BC e
 |0,e,h,_,_,_=>absurd e.bZ (by omega)
 |m+1,e,h,hg,hc,hs=>by
  rw[dk,Bool.and_eq_true,List.all_eq_true] at hc
  have hr:=fun p (hp:p∈e.parts)=>EC hcs hl m p (by have:=Ex.cm hp;omega) (LS hg hp) (hc.2 p hp) (Nat.le_trans (G9 hp) hs)
  have hz:e.ae.length+e.binds.length+e.alts.length<e.size:=by cases e;exact G8 ..
  have hk:=Of hg hcs hl hc.1 (by omega)
  unfold KC BC at*
  rw[dk,dk,Bool.and_eq_true,Bool.and_eq_true,List.all_eq_true,List.all_eq_true]
  exact⟨⟨decide_eq_true (by omega),fun p hp=>(hr p hp).1⟩,decide_eq_true (by omega),fun p hp=>(hr p hp).2⟩
theorem Oq:∀ l:List Al,fw 0 0 cV l=0
 |[]=>rfl
 |a::r=>by simp[fw,Oq r]
structure Hy (cs:List Cn) (c K D C:Nat):Prop where
 h1:ga [] cs=true
 h2:c≤1
 h3:c*101+K+101≤D
 h4:2≤D
 h5:C=D+1
mutual
theorem QW {c K D C:Nat} (hy:Hy cs c K D C):∀ e:Ex,Gd cs P e→ms (wI c K) e+D≤ms (wO 0 0) e+C*e.size
 | .mk k s n o ns ae binds alts,h=>by
  obtain⟨h0,h1,h2,h3⟩:=(cO ..).1 h
  have i1:=PF hy ae h1
  have i2:=Ju hy binds h2
  have i3:=PE hy alts (fun a ha=>⟨h3 a ha,by
   rcases iR h ha with⟨-,h4⟩|⟨-,h4⟩
   ·exact xC hy.h1 h4
   ·rw[h4];exact Nat.zero_le _⟩)
  have hc:=hy.h2
  have hD:=hy.h3
  have hC:=hy.h5
  simp only[Ce,wI,wO,Ex.names,Ex.binds,Ex.alts,Ex.size,Oq,Nat.mul_add,Nat.mul_one,Nat.zero_mul,Nat.zero_add,Nat.add_zero] at*
  have hcb:2*(c*binds.length)≤2*binds.length:=by
   have:c*binds.length≤1*binds.length:=Nat.mul_le_mul_right _ hc
   omega
  omega
theorem PF {c K D C:Nat} (hy:Hy cs c K D C):∀ l:List Ex,(∀ x∈l,Gd cs P x)→eF (wI c K) l≤eF (wO 0 0) l+C*jT l
 |[],_=>Nat.zero_le _
 |e::r,h=>by
  have i1:=QW hy e (h e (List.mem_cons_self ..))
  have i2:=PF hy r fun x hx=>h x (List.mem_cons_of_mem _ hx)
  simp only[eF,jT,Nat.mul_add] at*
  omega
theorem Ju {c K D C:Nat} (hy:Hy cs c K D C):∀ l:List Bd,(∀ b∈l,Gd cs P b.e)→2*l.length+dp (wI c K) l≤dp (wO 0 0) l+C*gQ l
 |[],_=>Nat.zero_le _
 | .mk t e::r,h=>by
  have i1:=QW hy e (h (.mk t e) (List.mem_cons_self ..))
  have i2:=Ju hy r fun x hx=>h x (List.mem_cons_of_mem _ hx)
  have hD2:=hy.h4
  simp only[dp,Ou,gQ,Bd.size,List.length_cons,Nat.mul_add] at*
  omega
theorem PE {c K D C:Nat} (hy:Hy cs c K D C):∀ l:List Al,(∀ a∈l,Gd cs P a.body∧a.names.length≤100)→fw c K (fun _=>true) l+oL l+eO (wI c K) l≤eO (wO 0 0) l+C*jO l
 |[],_=>Nat.zero_le _
 | .mk k s n ns e::r,h=>by
  obtain⟨g1,g2⟩:=h (.mk k s n ns e) (List.mem_cons_self ..)
  have i1:=QW hy e g1
  have i2:=PE hy r fun x hx=>h x (List.mem_cons_of_mem _ hx)
  have g3:c*(1+ns.length)≤c*101:=Nat.mul_le_mul_left _ (by simp only[Al.names] at g2;omega)
  have hD:=hy.h3
  simp only[eO,Ov,jO,Al.size,fw,oL,Al.names,if_true,Nat.mul_add] at*
  omega
end
end
end
section
structure mf (cs:List Cn) (P:aD→Prop) (L:Nat) (p:Pg):Prop where
 cons:p.cons=cs
 lint:bJ p=0
 nm:∀ s∈aU p.binds,P s
 lam:dp (wO 0 0) p.binds≤L
theorem rE {p:Pg} (h:bJ p=0):e9 p.binds≤100000:=by
 unfold bJ at h
 split at h
 ·cases h
 ·omega
theorem rQ:∀ l:List Bd,e9 l=gQ l
 |[]=>rfl
 | .mk t e::r=>by
  have:=rQ r
  unfold e9 at*
  rw[List.map_cons,List.sum_cons,this,gQ,Bd.size];rfl
theorem Kh {l:List Bd} {b:Bd} (h:b∈l):b.e.size≤e9 l:=by
 unfold e9
 induction l with
 |nil=>cases h
 |cons x r ih=>
  simp only[List.map_cons,List.sum_cons]
  rcases List.mem_cons.1 h with rfl|h
  ·omega
  ·have:=ih h;omega
theorem G7 (l:List Bd):l.length≤e9 l:=by
 unfold e9
 induction l with
 |nil=>exact Nat.zero_le _
 |cons x r ih=>have:=x.e.size_pos;simp only[List.length_cons,List.map_cons,List.sum_cons];omega
section
variable {cs:List Cn} {P:aD→Prop} {L:Nat} {p:Pg}
theorem mf.gd (h:mf cs P L p):∀ b∈p.binds,Gd cs P b.e∧P b.name:=fun b hb=>by
 have h0:=sD h.lint
 have hn:=fun s (hs:s∈b.name::iF b.e)=>h.nm s (List.mem_flatMap.2 ⟨b,hb,hs⟩)
 refine⟨⟨⟨h0.Ap b hb,by rw[← h.cons];exact h0.full b hb⟩,fun s hs=>hn s (List.mem_cons_of_mem _ hs)⟩,hn _ (List.mem_cons_self ..)⟩
abbrev KK:Nat:=800010
def NN (L:Nat):Nat:=L+81100000000
theorem mf.Lp (h:mf cs P L p) (hl:cs.length≤1000):∀ b∈p.binds,KC KK b.e∧BC b.e:=fun b hb=>by
 have h0:=sD h.lint
 have hs:=rE h.lint
 have:=Kh hb
 exact EC (by rw[← h.cons];exact h0.cons) hl b.e.wt b.e (Nat.le_refl _) (h.gd b hb).1 (by rw[← h.cons];exact h0.alts b hb) (by omega)
theorem DX (l:List Bd):ju l≤1000000000:=by
 have:=zc (aU l) 0 (by decide)
 unfold ju
 omega
theorem mf.Qo (h:mf cs P L p):dp (wI 1 KK) p.binds+ju p.binds≤NN L∧dp (wI 0 0) p.binds≤L+10200000:=by
 have h0:=sD h.lint
 have hs:=rE h.lint
 rw[rQ] at hs
 have hc:ga [] cs=true:=by rw[← h.cons];exact h0.cons
 have h1:=Ju (c:=1) (K:=KK) (D:=800212) (C:=800213) ⟨hc,by decide,by decide,by decide,by decide⟩ p.binds fun b hb=>(h.gd b hb).1
 have h2:=Ju (c:=0) (K:=0) (D:=101) (C:=102) ⟨hc,by decide,by decide,by decide,by decide⟩ p.binds fun b hb=>(h.gd b hb).1
 have h3:=DX p.binds
 have h4:=h.lam
 unfold NN
 omega
def M0:Ex→Kn→Nat→Ex×Nat:=fun x k n=>en x.wt x k n
theorem zp {cs:List Cn} (h:mV cs=true):ew cs vT 0=true∧ew cs o9 0=true:=by
 unfold mV at h
 rw[List.all_eq_true] at h
 have h1:=of_decide_eq_true (h ⟨vT,0,1,2⟩ (by decide))
 have h2:=of_decide_eq_true (h ⟨o9,0,0,2⟩ (by decide))
 dsimp only at h1 h2
 unfold ew
 unfold fK at*
 constructor
 ·cases hf:eN cs vT with
  |none=>rw[hf] at h1;exact absurd h1 (by decide)
  |some c=>rw[hf] at h1;simp only[Option.getD_some] at h1;subst h1;rfl
 ·cases hf:eN cs o9 with
  |none=>rw[hf] at h2;exact absurd h2 (by decide)
  |some c=>rw[hf] at h2;simp only[Option.getD_some] at h2;subst h2;rfl
theorem mf.RW (h:mf cs P L p) (hPn:∀ i,i<NN L→P (cx i)) (m:Nat):M1 cs P KK (NN L) m M0:=fun e k n h1 h2 h3 h4 h5=>
 Af hPn (by rw[← h.cons];exact(zp (sD h.lint).Og).1) (by rw[← h.cons];exact(zp (sD h.lint).Og).2) e.wt e k n (Nat.le_refl _) h2 h3 h4 h5
theorem mf.kn (h:mf cs P L p):wc cs P (E7 p.binds):=zo p.binds [] wc.nil fun b hb=>(h.gd b hb).1
theorem rW {l:List Bd} {b:Bd} (h:b∈l):b.e.wt≤aV l:=by
 induction l with
 |nil=>cases h
 |cons x r ih=>
  rw[aV]
  rcases List.mem_cons.1 h with rfl|h
  ·cases b;simp only[Bd.wt,Bd.e];omega
  ·have:=ih h;omega
theorem mf.oB (h:mf cs P L p) (hl:cs.length≤1000) (hPn:∀ i,i<NN L→P (cx i)):
 (∀ y∈fa p,Gd cs P y.e)∧(fa p).map Bd.name=p.binds.map Bd.name∧dp (wO 1 KK) (fa p)≤NN L∧dp (wO 0 0) (fa p)≤L+10200000:=by
 obtain⟨s1,s2⟩:=h.Qo
 obtain⟨b1,b2,b3,b4,b5⟩:=oa (h.RW hPn (aV p.binds)) h.kn p.binds (ju p.binds) (fun x hx=>⟨rW hx,(h.gd x hx).1,(h.Lp hl x hx).1⟩) s1
 exact⟨b1,b2,by unfold fa;unfold M0 at b3;omega,by unfold fa;unfold M0 at b4;omega⟩
theorem zI {w:Ex→Nat} {l l':List Bd} (h:l.Sublist l'):dp w l≤dp w l':=by
 induction h with
 |slnil=>exact Nat.le_refl _
 |cons a _ ih=>rw[dp];omega
 |cons_cons a _ ih=>rw[dp,dp];omega
theorem Fq {c K:Nat} {f:Bd→Bd}:∀ (l:List Bd),(∀ b∈l,mO c K (f b).e≤mO c K b.e)→dp (wO c K) (l.map f)≤dp (wO c K) l
 |[],_=>Nat.le_refl _
 |b::r,h=>by
  have h1:=h b (List.mem_cons_self ..)
  have h2:=Fq r fun x hx=>h x (List.mem_cons_of_mem _ hx)
  simp only[List.map_cons,dp,fS,mO] at*
  omega
theorem HC {b:Bd} (h:wj b=true):bU b.e=true:=by
 unfold wj at h
 simp only[Bool.and_eq_true,Bool.or_eq_true] at h
 unfold bU
 rw[Bool.or_eq_true]
 rcases h.2 with h|h
 ·exact .inr h
 ·exact .inl h.1
theorem Kd (l:List Bd) (hl:∀ b∈l,Gd cs P b.e∧P b.name):
 (∀ b∈kT l,Gd cs P b.e∧P b.name)∧(∀ c K,dp (wO c K) (kT l)≤dp (wO c K) l)∧(kT l).length≤l.length:=by
 unfold kT
 cases hf:l.findIdx? wj with
 |none=>exact⟨hl,fun _ _=>Nat.le_refl _,Nat.le_refl _⟩
 |some i=>
  obtain⟨hi,ha,-⟩:=List.findIdx?_eq_some_iff_getElem.1 hf
  have hg:l.getD i mY=l[i]:=by rw[List.getD_eq_getElem?_getD,List.getElem?_eq_getElem hi];rfl
  have hs:=List.eraseIdx_sublist l i
  simp only[hg]
  obtain⟨r1,r2⟩:=hl _ (List.getElem_mem hi)
  refine⟨fun b hb=>?_,fun c K=>?_,by rw[List.length_map];exact hs.length_le⟩
  ·obtain⟨x,hx,rfl⟩:=List.mem_map.1 hb
   exact⟨pX _ r1 (hl x (hs.subset hx)).1,(hl x (hs.subset hx)).2⟩
  ·refine Nat.le_trans (Fq _ fun b hb=>?_) (zI hs)
   exact qC c K _ r1 (HC ha) (hl b (hs.subset hb)).1
theorem mf.Ql (h:mf cs P L p) (hl:cs.length≤1000) (hPn:∀ i,i<NN L→P (cx i)):
 (∀ b∈(iq p).binds,Gd cs P b.e∧P b.name)∧dp (wO 1 KK) (iq p).binds≤NN L∧dp (wO 0 0) (iq p).binds≤L+10200000∧(iq p).binds.length≤p.binds.length:=by
 obtain⟨t1,t2,t3,t4⟩:=h.oB hl hPn
 have hs:(pN (fa p)).Sublist (fa p):=List.filter_sublist
 have hn:∀ b∈fa p,P b.name:=fun b hb=>by
  have:b.name∈p.binds.map Bd.name:=by rw[← t2];exact List.mem_map_of_mem hb
  obtain⟨x,hx,he⟩:=List.mem_map.1 this
  rw[← he]
  exact(h.gd x hx).2
 obtain⟨q1,q2,q3⟩:=Kd (pN (fa p)) fun b hb=>⟨t1 b (hs.subset hb),hn b (hs.subset hb)⟩
 have hlen:(fa p).length=p.binds.length:=by have:=congrArg List.length t2;simpa using this
 refine⟨q1,Nat.le_trans (q2 _ _) (Nat.le_trans (zI hs) t3),Nat.le_trans (q2 _ _) (Nat.le_trans (zI hs) t4),?_⟩
 have:=hs.length_le
 show(kT (pN (fa p))).length≤_
 omega
theorem mf.pass (h:mf cs P L p) (hl:cs.length≤1000) (hPn:∀ i,i<NN L→P (cx i)):mf cs P (L+10200000) (cD p)∧(cD p).binds.length≤p.binds.length:=by
 obtain⟨q1,q2,q3,q4⟩:=h.Ql hl hPn
 unfold cD
 by_cases h0:bJ (iq p)=0
 ·rw[if_pos h0]
  refine⟨⟨h.cons,h0,fun s hs=>?_,q3⟩,q4⟩
  obtain⟨b,hb,hs⟩:=List.mem_flatMap.1 hs
  obtain⟨g1,g2⟩:=q1 b hb
  rcases List.mem_cons.1 hs with rfl|hs
  ·exact g2
  ·exact g1.bp s hs
 ·rw[if_neg h0]
  exact⟨⟨h.cons,h.lint,h.nm,by have:=h.lam;omega⟩,Nat.le_refl _⟩
theorem KJ (K:Nat) (l:List Bd):aV l≤l.length+dp (wO 1 K) l:=by have:=wb K l;omega
theorem mf.wt (h:mf cs P L p):aV p.binds≤L+20400000:=by
 have h0:=sD h.lint
 have hs:=rE h.lint
 have hc:ga [] cs=true:=by rw[← h.cons];exact h0.cons
 have h1:=Ju (c:=1) (K:=0) (D:=202) (C:=203) ⟨hc,by decide,by decide,by decide,by decide⟩ p.binds fun b hb=>(h.gd b hb).1
 have h2:=wb 0 p.binds
 have h3:=DU 0 p.binds
 have h5:=G7 p.binds
 have h6:=h.lam
 rw[rQ] at hs h5
 omega
end
end
theorem FB (G:Gl) (hG:ah G) (e:Ex) (hw:e.wt<549755813888) (i:Nat) (hi:i<e.parts.length) (H:List av):aq Tryz.prog G 105 [e.sv,.int .i64 i] H (fun r H'=>H'=H∧r=e.parts[i].sv):=by
 obtain⟨kd,nm,nn,op,names,ae,binds,alts⟩:=e
 have hle:=Ex.dn kd nm nn op names ae binds alts
 have hpm:=Ex.ck kd nm nn op names ae binds alts
 have hpl:(Ex.mk kd nm nn op names ae binds alts).parts.length=ae.length+(binds.length+alts.length):=by rw[hpm];simp
 have hg:(Ex.mk kd nm nn op names ae binds alts).parts[i]? =some (Ex.mk kd nm nn op names ae binds alts).parts[i]:=List.getElem?_eq_getElem hi
 rw[hpl] at hi
 generalize (Ex.mk kd nm nn op names ae binds alts).parts[i]=x at*
 rw[hpm] at hg
 clear hpm hpl
 rcases Nat.lt_or_ge i ae.length with h1|h1
 ·rw[List.getElem?_append_left h1,List.getElem?_eq_getElem h1] at hg
  obtain rfl:=Option.some.inj hg
  refine bP [] Tryz.func105 Tryz.ntmps105 fun C R' hR hC hcl hB hC' X=>?_
  (refine run ?_;with_reducible repeat' first|exact trivial|(apply aJ.mk<;>intro hb)|apply bN.mk)
  exact aZ (n0:=H.length) hR hC' hcl (.same _ (by simp only[aC];exact jF)) ⟨rfl,rfl⟩
 rw[List.getElem?_append_right h1] at hg
 rcases Nat.lt_or_ge i (ae.length+binds.length) with h2|h2
 ·obtain⟨j,rfl⟩:∃ j,i=ae.length+j:=⟨i - ae.length,by omega⟩
  have h3:j<binds.length:=by omega
  rw[Nat.add_sub_cancel_left,List.getElem?_append_left (by simpa using h3),List.getElem?_map,List.getElem?_eq_getElem h3] at hg
  obtain rfl:=Option.some.inj hg
  have hj:((ae.length+j:Nat):Int) - (ae.length:Int)=(j:Int):=by omega
  refine bP [] Tryz.func105 Tryz.ntmps105 fun C R' hR hC hcl hB hC' X=>?_
  have X:=And.intro X hj
  (refine run ?_;with_reducible repeat' first|exact trivial|(apply aJ.mk<;>intro hb)|apply bN.mk)
  all_goals first|exact aZ (n0:=H.length) hR hC' hcl (.same _ (by simp only[aC];exact jF)) ⟨rfl,rfl⟩|(exfalso;omega)
 ·obtain⟨j,rfl⟩:∃ j,i=ae.length+(binds.length+j):=⟨i - ae.length - binds.length,by omega⟩
  have h3:j<alts.length:=by omega
  rw[Nat.add_sub_cancel_left,List.getElem?_append_right (by simp),List.length_map,Nat.add_sub_cancel_left,List.getElem?_map,List.getElem?_eq_getElem h3] at hg
  obtain rfl:=Option.some.inj hg
  have hj:((ae.length+(binds.length+j):Nat):Int) - (ae.length:Int)=((binds.length+j:Nat):Int):=by omega
  have hj2:((binds.length+j:Nat):Int) - (binds.length:Int)=(j:Int):=by omega
  refine bP [] Tryz.func105 Tryz.ntmps105 fun C R' hR hC hcl hB hC' X=>?_
  have X:=fc X hj hj2
  (refine run ?_;with_reducible repeat' first|exact trivial|(apply aJ.mk<;>intro hb)|apply bN.mk)
  all_goals first|exact aZ (n0:=H.length) hR hC' hcl (.same _ (by simp only[aC];exact jF)) ⟨rfl,rfl⟩|(exfalso;omega)
def QC (G:Gl) (m:Nat):Prop:=∀ (e:Ex) (H:List av),e.wt≤m→e.wt<4294967296→aq Tryz.prog G 59 [e.sv] H (fun r H'=>H'=H++[.cells 0 1 ((cF m e).map .str)]∧r= .sl H.length 0 0 (cF m e).length)
theorem sG (G:Gl) (hG:ah G):∀ m,QC G m
 |0,e,H,h,_=>absurd e.bZ (by omega)
 |m+1,e,H,hm,hw0=>by
  have hrec:=sG G hG m
  obtain⟨kd,nm,nn,op,names,ae,binds,alts⟩:=e
  have hle:=Ex.dn kd nm nn op names ae binds alts
  have hln:=dH (m+1) (.mk kd nm nn op names ae binds alts)
  have hpw:∀ p∈(Ex.mk kd nm nn op names ae binds alts).parts,p.wt≤m∧p.wt<4294967296:=fun p hp=>by have:=Ex.cm hp;exact⟨by omega,by omega⟩
  rw[Ex.ck] at hpw
  have eb:cF (m+1) (.mk kd nm nn op names ae binds alts)=(if kd=3 then names else [])++ae.flatMap (cF m)++binds.flatMap (fun b=>b.name::cF m b.e)++(if kd=6 then [nm] else [])++alts.flatMap (fun a=>a.names++cF m a.body):=rfl
  rw[eb] at hln ⊢
  clear eb
  have h3n:(if kd=3 then names else []).length≤names.length:=by split<;>simp
  generalize hl0:(if kd=3 then names else [])=l0 at*
  generalize hl5:(if kd=6 then [nm] else [])=l5 at*
  obtain⟨L1,a1,a2,a3,a4⟩:=il (cF m) l0 ae
  rw[← a4] at hln ⊢
  obtain⟨L2,b1,b2,b3,b4⟩:=il (fun b:Bd=>b.name::cF m b.e) (L1 ae.length) binds
  rw[← b4] at hln ⊢
  obtain⟨L4,d1,d2,d3,d4⟩:=il (fun a:Al=>a.names++cF m a.body) (L2 binds.length++l5) alts
  rw[← d4] at hln ⊢
  rw[← a4] at a3
  rw[← b4] at b3
  rw[← d4] at d3
  have q4:(L2 binds.length).length+l5.length≤(L4 alts.length).length:=by have:=d3 0;rw[d1,List.length_append] at this;exact this
  have q2:(L1 ae.length).length≤(L2 binds.length).length:=by have:=b3 0;rw[b1] at this;exact this
  generalize hW:(Ex.mk kd nm nn op names ae binds alts).wt=W at*
  refine bP [3] Tryz.func59 Tryz.ntmps59 fun C R' hR hC hcl hB hC' X=>?_
  (refine iu ?_)
  refine fA (fun _:Unit=>[(1,.ptr H.length 0 0 0),(3,.sl (H.length+1) 0 0 l0.length)]) (fun _=>H++[.cells 0 8 [.agg [.int .i64 kd,.str nm,.int .i64 nn,.int .i64 op,.list 1 (names.map .str),.list 8 (ag ae),.list 9 (ad binds),.list 12 (af alts)]],.cells 0 1 (l0.map .str)]) (fun _=>True) (fun K hK=>?_) (fun _ _=>?_)
  ·(refine bK ?_;with_reducible repeat' first|exact trivial|(apply aJ.mk<;>intro hb)|apply bN.mk)
   ·refine hK _ _ () trivial ?_
    rw[if_pos hb] at hl0
    subst hl0
    exact bI (n0:=H.length) [(H.length,0),(H.length+1,0)] hG hB hC' hcl
   ·refine hK _ _ () trivial ?_
    rw[if_neg hb] at hl0
    subst hl0
    simp only[List.length_nil,List.map_nil]
    exact bI (n0:=H.length) [(H.length,0),(H.length+1,0)] hG hB hC' hcl
  (refine bK ?_)
  refine aA (fun i:Nat=>[(1,.ptr H.length 0 0 0),(3,.sl (H.length+1) 0 0 (L1 i).length),(4,.int .i64 i)])
   (fun i=>H++[.cells 0 8 [.agg [.int .i64 kd,.str nm,.int .i64 nn,.int .i64 op,.list 1 (names.map .str),.list 8 (ag ae),.list 9 (ad binds),.list 12 (af alts)]],.cells 0 1 ((L1 i).map .str)]) (fun i=>ae.length - i) (fun i=>i≤ae.length) 0 (Nat.zero_le _) ?_ ?_
  ·rw[a1]
   exact Wk.sub (by simp[aW,look])
  rintro K i hi hK
  rcases Nat.lt_or_ge i ae.length with hlt|hge
  ·have c1:=fun H=>hrec ae[i] H (hpw _ (by simp)).1 (hpw _ (by simp)).2
   have e1:=a2 i hlt
   have e2:=a3 (i+1)
   have e3:=a3 i
   have e4:=dH m ae[i]
   have e5:=(hpw ae[i] (by simp)).2
   rw[e1,List.length_append] at e2
   generalize cF m ae[i]=l at*
   generalize L1 i=l1 at*
   have X:=And.intro aO (show(l1.map SV.str).length=l1.length∧(l.map SV.str).length=l.length from⟨List.length_map ..,List.length_map ..⟩)
   (refine run ?_;with_reducible repeat' first|exact trivial|(apply aJ.mk<;>intro hb)|apply bN.mk)
   refine hK _ _ (i+1) (by omega) (by omega) ?_
   rw[e1,List.map_append,show(l1++l).length=l1.length+l.length from List.length_append ..]
   exact bI (n0:=H.length) [(H.length,0),(H.length+1,0)] hG hB hC' hcl
  obtain rfl:i=ae.length:=by omega
  clear hK
  (refine bK ?_;with_reducible repeat' first|exact trivial|(apply aJ.mk<;>intro hb)|apply bN.mk)
  refine aA (fun i:Nat=>[(1,.ptr H.length 0 0 0),(3,.sl (H.length+1) 0 0 (L2 i).length),(5,.int .i64 i)])
   (fun i=>H++[.cells 0 8 [.agg [.int .i64 kd,.str nm,.int .i64 nn,.int .i64 op,.list 1 (names.map .str),.list 8 (ag ae),.list 9 (ad binds),.list 12 (af alts)]],.cells 0 1 ((L2 i).map .str)]) (fun i=>binds.length - i) (fun i=>i≤binds.length) 0 (Nat.zero_le _) ?_ ?_
  ·rw[b1]
   exact Wk.sub (by simp[aW,look])
  rintro K i hi hK
  rcases Nat.lt_or_ge i binds.length with hlt|hge
  ·have hpb:=hpw binds[i].e (by simp;exact .inr (.inl ⟨_,List.getElem_mem hlt,rfl⟩))
   have c1:=fun H=>hrec binds[i].e H hpb.1 hpb.2
   have e1:=b2 i hlt
   have e2:=b3 (i+1)
   have e3:=b3 i
   have e4:=dH m binds[i].e
   rw[e1,List.length_append] at e2
   simp only[List.length_cons] at e2
   generalize cF m binds[i].e=l at*
   generalize L2 i=l1 at*
   have X:=And.intro aO (show(l1.map SV.str).length=l1.length∧(l.map SV.str).length=l.length from⟨List.length_map ..,List.length_map ..⟩)
   (refine run ?_;with_reducible repeat' first|exact trivial|(apply aJ.mk<;>intro hb)|apply bN.mk)
   refine hK _ _ (i+1) (by omega) (by omega) ?_
   rw[e1,List.map_append,List.map_cons,show(l1++binds[i].name::l).length=l1.length+(1+l.length) from by simp;omega]
   exact bI (n0:=H.length) [(H.length,0),(H.length+1,0)] hG hB hC' hcl
  obtain rfl:i=binds.length:=by omega
  clear hK
  (refine iu ?_)
  refine eh rfl (by omega) ?_
  (refine iu ?_)
  refine fA (fun _:Unit=>[(1,.ptr H.length 0 0 0),(3,.sl (H.length+1) 0 0 (L2 binds.length++l5).length)]) (fun _=>H++[.cells 0 8 [.agg [.int .i64 kd,.str nm,.int .i64 nn,.int .i64 op,.list 1 (names.map .str),.list 8 (ag ae),.list 9 (ad binds),.list 12 (af alts)]],.cells 0 1 ((L2 binds.length++l5).map .str)]) (fun _=>True) (fun K hK=>?_) (fun _ _=>?_)
  ·have X:=And.intro aO (show((L2 binds.length).map SV.str).length=(L2 binds.length).length from List.length_map ..)
   (refine bK ?_;with_reducible repeat' first|exact trivial|(apply aJ.mk<;>intro hb)|apply bN.mk)
   ·refine hK _ _ () trivial ?_
    rw[if_pos hb] at hl5
    subst hl5
    rw[List.map_append,List.length_append,List.length_singleton]
    exact bI (n0:=H.length) [(H.length,0),(H.length+1,0)] hG hB hC' hcl
   ·refine hK _ _ () trivial ?_
    rw[if_neg hb] at hl5
    subst hl5
    rw[List.append_nil]
    exact bI (n0:=H.length) [(H.length,0),(H.length+1,0)] hG hB hC' hcl
  (refine bK ?_)
  refine aA (fun i:Nat=>[(1,.ptr H.length 0 0 0),(3,.sl (H.length+1) 0 0 (L4 i).length),(6,.int .i64 i)])
   (fun i=>H++[.cells 0 8 [.agg [.int .i64 kd,.str nm,.int .i64 nn,.int .i64 op,.list 1 (names.map .str),.list 8 (ag ae),.list 9 (ad binds),.list 12 (af alts)]],.cells 0 1 ((L4 i).map .str)]) (fun i=>alts.length - i) (fun i=>i≤alts.length) 0 (Nat.zero_le _) ?_ ?_
  ·rw[d1]
   exact Wk.sub (by simp[aW,look])
  rintro K i hi hK
  rcases Nat.lt_or_ge i alts.length with hlt|hge
  ·have hpb:=hpw alts[i].body (by simp;exact .inr (.inr ⟨_,List.getElem_mem hlt,rfl⟩))
   have c1:=fun H=>hrec alts[i].body H hpb.1 hpb.2
   have e1:=d2 i hlt
   have e2:=d3 (i+1)
   have e3:=d3 i
   have e4:=dH m alts[i].body
   rw[e1,List.length_append] at e2
   simp only[List.length_append] at e2
   generalize cF m alts[i].body=l at*
   generalize L4 i=l1 at*
   have X:=And.intro aO (show(l1.map SV.str).length=l1.length∧(l.map SV.str).length=l.length from⟨List.length_map ..,List.length_map ..⟩)
   (refine run ?_;with_reducible repeat' first|exact trivial|(apply aJ.mk<;>intro hb)|apply bN.mk)
   refine hK _ _ (i+1) (by omega) (by omega) ?_
   rw[e1,List.map_append,List.map_append,show(l1++(alts[i].names++l)).length=l1.length+(alts[i].names.length+l.length) from by simp]
   exact bI (n0:=H.length) [(H.length,0),(H.length+1,0)] hG hB hC' hcl
  obtain rfl:i=alts.length:=by omega
  clear hK
  (refine bK ?_;with_reducible repeat' first|exact trivial|(apply aJ.mk<;>intro hb)|apply bN.mk)
  exact gD [(H.length+1,0)] (.sl H.length 0 0 (L4 alts.length).length) [.cells 0 1 ((L4 alts.length).map .str)] hR hC' hcl ⟨rfl,rfl⟩
end Go.Proofs.YtjdfoonhnmpkdaaGreatDoor
