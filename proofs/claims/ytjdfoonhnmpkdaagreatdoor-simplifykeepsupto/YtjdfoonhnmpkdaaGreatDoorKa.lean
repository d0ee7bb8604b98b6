/- Proves SimplifyKeeps in its Upto form: what is handed in is not written into, constructors stay, and a pass behind which nothing changes is the last one; condition: the bulk of what is handed in is at most 2^20. Names and spaces are cut short by program. -/
import Derived.Test.YtjdfoonhnmpkdaaGreatDoorMl
set_option linter.unusedSimpArgs false
set_option linter.unusedVariables false
set_option maxRecDepth 10000
set_option maxHeartbeats 4000000
namespace Go.Proofs.YtjdfoonhnmpkdaaGreatDoor
open Go
theorem x6 (G:Gl) (hG:ah G) (a b:List (aD)) (ha:a.length<1125899906842624) (hb0:b.length<1125899906842624) (H:List av):
 aq Tryz.prog G 70 [.list 1 (a.map SV.str),.list 1 (b.map SV.str)] H (fun r H'=>H'=H∧r= .bool (gg iB a b)):=by
 have h1:(a.map SV.str).length=a.length:=by simp
 have h2:(b.map SV.str).length=b.length:=by simp
 have hA1:∀ k:Nat,(a.map SV.str)[k]? =a[k]?.map SV.str:=fun k=>List.getElem?_map ..
 have hB1:∀ k:Nat,(b.map SV.str)[k]? =b[k]?.map SV.str:=fun k=>List.getElem?_map ..
 have hu1:SV.aj H.length (a.map SV.str)=true:=SV.aT fun _ _=>rfl
 have hu2:SV.aj H.length (b.map SV.str)=true:=SV.aT fun _ _=>rfl
 generalize a.map SV.str=A at*
 generalize b.map SV.str=B at*
 refine bP [] Tryz.func70 Tryz.ntmps70 fun C R' hR hC hcl hB hC' X=>?_
 have X:=fc X h1 h2
 by_cases hl:a.length=b.length
 ·have hln:((a.length:Int)=(b.length:Int))=True:=by simp[hl]
  have X:=And.intro X hln
  (refine run ?_)
  clear X
  refine aA (fun k:Nat=>[(0,.list 1 A),(1,.list 1 B),(5,.int .i64 k)]) (fun _=>H) (fun k=>a.length - k) (fun k=>k≤a.length∧∀ i (h:i<a.length) (h':i<b.length),i<k→iB a[i] b[i]=true) 0 ⟨Nat.zero_le _,fun i _ _ h=>by omega⟩ (Wk.sub (by simp[aW,look])) ?_
  rintro K k ⟨hk,hall⟩ hK
  rcases Nat.lt_or_ge k a.length with hlt|hge
  ·have hlt2:k<b.length:=by omega
   have e1:A[k]? =some (SV.str a[k]):=by rw[hA1,List.getElem?_eq_getElem hlt];rfl
   have e2:B[k]? =some (SV.str b[k]):=by rw[hB1,List.getElem?_eq_getElem hlt2];rfl
   have hno:=my (p:=iB) hlt hlt2
   have hyes:iB a[k] b[k]=true→∀ i (h:i<a.length) (h':i<b.length),i<k+1→iB a[i] b[i]=true:=fun h i hi hi' hik=>by
    rcases Nat.lt_or_ge i k with h3|h3
    ·exact hall i hi hi' h3
    ·have:i=k:=by omega
     subst this;exact h
   generalize a[k]=x at*
   generalize b[k]=y at*
   simp only[iB] at hno hyes
   have X:=j8 aO h1 h2 e1 e2
   (refine run ?_;with_reducible repeat' first|exact trivial|(apply aJ.mk<;>intro hb)|apply bN.mk)
   ·refine Fin.out hR ⟨rfl,?_⟩
    rw[hno (by first|(simpa using hb)|(revert hb;simp;done)|(cases h1:decide (x1=y1)<;>cases h2:decide (x2=y2)<;>simp_all;done)|(cases h1:decide (x1=y1)<;>cases h2:decide (x2=y2)<;>cases h3:decide (x3=y3)<;>cases h4:decide (x4=y4)<;>simp_all))];rfl
   ·exact hK _ _ (k+1) (by omega) ⟨by omega,hyes (by first|(simpa using hb)|(revert hb;simp;done)|(cases h1:decide (x1=y1)<;>cases h2:decide (x2=y2)<;>simp_all;done)|(cases h1:decide (x1=y1)<;>cases h2:decide (x2=y2)<;>cases h3:decide (x3=y3)<;>cases h4:decide (x4=y4)<;>simp_all))⟩ (Wk.sub (by simp[aW,look]))
  ·have:k=a.length:=by omega
   subst this
   have X:=And.intro aO (Int.lt_irrefl (a.length:Int))
   (refine run ?_;with_reducible repeat' first|exact trivial|(apply aJ.mk<;>intro hb)|apply bN.mk)
   refine Fin.out hR ⟨rfl,?_⟩
   rw[(gh iB a b).2 ⟨hl,fun i h h'=>hall i h h' h⟩];rfl
 ·have hln:((a.length:Int)=(b.length:Int))=False:=by simp;omega
  have X:=And.intro X hln
  (refine run ?_)
  refine Fin.out hR ⟨rfl,?_⟩
  rw[mz hl];rfl
theorem NG {k1 k2:Int} {s1 s2:aD} {n1 n2:Int} {z2 z:Bool} (h:(decide (¬ k1=k2)||decide (¬ s1=s2)||decide (¬ n1=n2))=true):Ho k1 k2 s1 s2 n1 n2 z2 z=false:=by
 revert h;unfold Ho;by_cases a:k1=k2<;>by_cases b:s1=s2<;>by_cases c:n1=n2<;>simp[a,b,c]
theorem Pd {k1 k2:Int} {s1 s2:aD} {n1 n2:Int} {z2 z:Bool} (h:(decide (¬ k1=k2)||decide (¬ s1=s2)||decide (¬ n1=n2))=false) (h2:(!z2)=false) (h3:(!z)=false):Ho k1 k2 s1 s2 n1 n2 z2 z=true:=by
 revert h;unfold Ho;by_cases a:k1=k2<;>by_cases b:s1=s2<;>by_cases c:n1=n2<;>simp_all
theorem NH {k1 k2:Int} {s1 s2:aD} {n1 n2:Int} {z2 z:Bool} (h:(!z2)=true):Ho k1 k2 s1 s2 n1 n2 z2 z=false:=by
 unfold Ho;simp_all
theorem NI {k1 k2:Int} {s1 s2:aD} {n1 n2:Int} {z2 z:Bool} (h:(!z)=true):Ho k1 k2 s1 s2 n1 n2 z2 z=false:=by
 unfold Ho;simp_all
def QD (G:Gl) (m:Nat):Prop:=∀ (a b:Ex) (H:List av),a.wt≤m→a.wt<549755813888→b.wt<549755813888→aq Tryz.prog G 27 [a.sv,b.sv] H (fun r H'=>H'=H∧r= .bool (fT m a b))
theorem CC (G:Gl) (hG:ah G):∀ m,QD G m
 |0,a,b,H,h,_,_=>absurd a.bZ (by omega)
 |m+1,a,b,H,hm,ha,hb=>by
  have hrec:=CC G hG m
  obtain⟨k1,s1,n1,o1,l1,u1,b1,a1⟩:=a
  obtain⟨k2,s2,n2,o2,l2,u2,b2,a2⟩:=b
  have hle1:=Ex.dn k1 s1 n1 o1 l1 u1 b1 a1
  have hle2:=Ex.dn k2 s2 n2 o2 l2 u2 b2 a2
  have hw1:(Ex.mk k1 s1 n1 o1 l1 u1 b1 a1).wt=1+l1.length+cn u1+aV b1+cf a1:=by simp only[Ex.wt]
  have hw2:(Ex.mk k2 s2 n2 o2 l2 u2 b2 a2).wt=1+l2.length+cn u2+aV b2+cf a2:=by simp only[Ex.wt]
  have c1:=fun H=>x6 G hG l1 l2 (by omega) (by omega) H
  have e0:fT (m+1) (.mk k1 s1 n1 o1 l1 u1 b1 a1) (.mk k2 s2 n2 o2 l2 u2 b2 a2)=KU k1 k2 s1 s2 n1 n2 o1 o2 (gg iB l1 l2) (gg (fT m) u1 u2) (gg (wN (fT m)) b1 b2) (gg (wG (fT m)) a1 a2):=rfl
  rw[e0]
  clear e0
  generalize gg iB l1 l2=z1 at*
  by_cases hd:(decide (k1=k2)&&decide (s1=s2)&&decide (n1=n2)&&decide (o1=o2)&&z1&&decide (u1.length=u2.length)&&decide (b1.length=b2.length)&&decide (a1.length=a2.length))=true
  ·simp only[Bool.and_eq_true,decide_eq_true_eq] at hd
   obtain⟨⟨⟨⟨⟨⟨⟨h1,h2⟩,h3⟩,h4⟩,h5⟩,h6⟩,h7⟩,h8⟩:=hd
   subst h1 h2 h3 h4 h5
   have hgoal:KU k1 k1 s1 s1 n1 n1 o1 o1 true (gg (fT m) u1 u2) (gg (wN (fT m)) b1 b2) (gg (wG (fT m)) a1 a2)=((gg (fT m) u1 u2&&gg (wN (fT m)) b1 b2)&&gg (wG (fT m)) a1 a2):=by simp[KU]
   rw[hgoal]
   clear hgoal
   have hn1:∀ {i:Nat} (h:i<u1.length) (h':i<u2.length),fT m u1[i] u2[i]=false→gg (fT m) u1 u2=false:=my
   have hn2:∀ {i:Nat} (h:i<b1.length) (h':i<b2.length),wN (fT m) b1[i] b2[i]=false→gg (wN (fT m)) b1 b2=false:=my
   have hn3:∀ {i:Nat} (h:i<a1.length) (h':i<a2.length),wG (fT m) a1[i] a2[i]=false→gg (wG (fT m)) a1 a2=false:=my
   have hy1:=(gh (fT m) u1 u2).2
   have hy2:=(gh (wN (fT m)) b1 b2).2
   have hy3:=(gh (wG (fT m)) a1 a2).2
   generalize gg (fT m) u1 u2=z1 at*
   generalize gg (wN (fT m)) b1 b2=z2 at*
   generalize gg (wG (fT m)) a1 a2=z3 at*
   refine bP [] Tryz.func27 Tryz.ntmps27 fun C R' hR hC hcl hB hC' X=>?_
   have X:=oD X (show((k1:Int)=k1)=True from by simp) (show(s1=s1)=True from by simp) (show((u1.length:Int)=(u2.length:Int))=True from by simp[h6]) (show((b1.length:Int)=(b2.length:Int))=True from by simp[h7]) (show((a1.length:Int)=(a2.length:Int))=True from by simp[h8])
   (refine iu ?_)
   refine uJ rfl ?_
   clear X
   (refine bK ?_)
   refine aA (fun k:Nat=>[(2,.ptr H.length 0 0 0),(3,.ptr (H.length+1) 0 0 0),(5,.int .i64 k)]) (fun _=>H++[.cells 0 8 [.agg [.int .i64 k1,.str s1,.int .i64 n1,.int .i64 o1,.list 1 (l1.map .str),.list 8 (ag u1),.list 9 (ad b1),.list 12 (af a1)]],.cells 0 8 [.agg [.int .i64 k1,.str s1,.int .i64 n1,.int .i64 o1,.list 1 (l2.map .str),.list 8 (ag u2),.list 9 (ad b2),.list 12 (af a2)]]]) (fun k=>u1.length - k) (fun k=>k≤u1.length∧∀ i (h:i<u1.length) (h':i<u2.length),i<k→fT m u1[i] u2[i]=true) 0 ⟨Nat.zero_le _,fun i _ _ h=>by omega⟩ (bI (n0:=H.length) [(H.length,0),(H.length+1,0)] hG hB hC' hcl) ?_
   rintro K k ⟨hk,hall⟩ hK
   rcases Nat.lt_or_ge k u1.length with hlt|hge
   ·have hlt2:k<u2.length:=by omega
    have hm1:=fg (List.getElem_mem hlt)
    have hm2:=fg (List.getElem_mem hlt2)
    have hno:=hn1 hlt hlt2
    have c2:=fun H=>hrec u1[k] u2[k] H (by omega) (by omega) (by omega)
    have hyes:fT m u1[k] u2[k]=true→∀ i (h:i<u1.length) (h':i<u2.length),i<k+1→fT m u1[i] u2[i]=true:=fun h i hi hi' hik=>by
     rcases Nat.lt_or_ge i k with h3|h3
     ·exact hall i hi hi' h3
     ·have:i=k:=by omega
      subst this;exact h
    generalize fT m u1[k] u2[k]=z at*
    (refine run ?_;with_reducible repeat' first|exact trivial|(apply aJ.mk<;>intro hb)|apply bN.mk)
    ·refine aZ (n0:=H.length) hR hC' hcl (.same _ rfl) ⟨rfl,?_⟩
     rw[hno (by simpa using hb)];rfl
    ·exact hK _ _ (k+1) (by omega) ⟨by omega,hyes (by simpa using hb)⟩ (bI (n0:=H.length) [(H.length,0),(H.length+1,0)] hG hB hC' hcl)
   obtain rfl:k=u1.length:=by omega
   clear hK
   have q1:=hy1 ⟨h6,fun i h h'=>hall i h h' h⟩
   subst q1
   clear hall hn1 hy1
   (refine bK ?_;with_reducible repeat' first|exact trivial|(apply aJ.mk<;>intro hb)|apply bN.mk)
   refine aA (fun k:Nat=>[(2,.ptr H.length 0 0 0),(3,.ptr (H.length+1) 0 0 0),(6,.int .i64 k)]) (fun _=>H++[.cells 0 8 [.agg [.int .i64 k1,.str s1,.int .i64 n1,.int .i64 o1,.list 1 (l1.map .str),.list 8 (ag u1),.list 9 (ad b1),.list 12 (af a1)]],.cells 0 8 [.agg [.int .i64 k1,.str s1,.int .i64 n1,.int .i64 o1,.list 1 (l2.map .str),.list 8 (ag u2),.list 9 (ad b2),.list 12 (af a2)]]]) (fun k=>b1.length - k) (fun k=>k≤b1.length∧∀ i (h:i<b1.length) (h':i<b2.length),i<k→wN (fT m) b1[i] b2[i]=true) 0 ⟨Nat.zero_le _,fun i _ _ h=>by omega⟩ (bI (n0:=H.length) [(H.length,0),(H.length+1,0)] hG hB hC' hcl) ?_
   rintro K k ⟨hk,hall⟩ hK
   rcases Nat.lt_or_ge k b1.length with hlt|hge
   ·have hlt2:k<b2.length:=by omega
    have hm1:=ea (List.getElem_mem hlt)
    have hm2:=ea (List.getElem_mem hlt2)
    have hm3:=b1[k].dw
    have hm4:=b2[k].dw
    have hno:=hn2 hlt hlt2
    have c2:=fun H=>hrec b1[k].e b2[k].e H (by omega) (by omega) (by omega)
    have hyes:wN (fT m) b1[k] b2[k]=true→∀ i (h:i<b1.length) (h':i<b2.length),i<k+1→wN (fT m) b1[i] b2[i]=true:=fun h i hi hi' hik=>by
     rcases Nat.lt_or_ge i k with h3|h3
     ·exact hall i hi hi' h3
     ·have:i=k:=by omega
      subst this;exact h
    simp only[wN] at hno hyes
    generalize fT m b1[k].e b2[k].e=z at*
    (refine run ?_;with_reducible repeat' first|exact trivial|(apply aJ.mk<;>intro hb)|apply bN.mk)
    ·refine aZ (n0:=H.length) hR hC' hcl (.same _ rfl) ⟨rfl,?_⟩
     rw[hno (by simp[KQ,hb])];rfl
    ·refine aZ (n0:=H.length) hR hC' hcl (.same _ rfl) ⟨rfl,?_⟩
     rw[hno (by simp_all [KQ])];rfl
    ·exact hK _ _ (k+1) (by omega) ⟨by omega,hyes (by simp_all [KQ])⟩ (bI (n0:=H.length) [(H.length,0),(H.length+1,0)] hG hB hC' hcl)
   obtain rfl:k=b1.length:=by omega
   clear hK
   have q2:=hy2 ⟨h7,fun i h h'=>hall i h h' h⟩
   subst q2
   clear hall hn2 hy2
   (refine bK ?_;with_reducible repeat' first|exact trivial|(apply aJ.mk<;>intro hb)|apply bN.mk)
   refine aA (fun k:Nat=>[(2,.ptr H.length 0 0 0),(3,.ptr (H.length+1) 0 0 0),(7,.int .i64 k)]) (fun _=>H++[.cells 0 8 [.agg [.int .i64 k1,.str s1,.int .i64 n1,.int .i64 o1,.list 1 (l1.map .str),.list 8 (ag u1),.list 9 (ad b1),.list 12 (af a1)]],.cells 0 8 [.agg [.int .i64 k1,.str s1,.int .i64 n1,.int .i64 o1,.list 1 (l2.map .str),.list 8 (ag u2),.list 9 (ad b2),.list 12 (af a2)]]]) (fun k=>a1.length - k) (fun k=>k≤a1.length∧∀ i (h:i<a1.length) (h':i<a2.length),i<k→wG (fT m) a1[i] a2[i]=true) 0 ⟨Nat.zero_le _,fun i _ _ h=>by omega⟩ (bI (n0:=H.length) [(H.length,0),(H.length+1,0)] hG hB hC' hcl) ?_
   rintro K k ⟨hk,hall⟩ hK
   rcases Nat.lt_or_ge k a1.length with hlt|hge
   ·have hlt2:k<a2.length:=by omega
    have hm1:=dZ (List.getElem_mem hlt)
    have hm2:=dZ (List.getElem_mem hlt2)
    have hm3:=a1[k].dw
    have hm4:=a2[k].dw
    have hm5:=a1[k].jH
    have hm6:=a2[k].jH
    have hno:=hn3 hlt hlt2
    have c2:=fun H=>hrec a1[k].body a2[k].body H (by omega) (by omega) (by omega)
    have c3:=fun H=>x6 G hG a1[k].names a2[k].names (by omega) (by omega) H
    have hyes:wG (fT m) a1[k] a2[k]=true→∀ i (h:i<a1.length) (h':i<a2.length),i<k+1→wG (fT m) a1[i] a2[i]=true:=fun h i hi hi' hik=>by
     rcases Nat.lt_or_ge i k with h3|h3
     ·exact hall i hi hi' h3
     ·have:i=k:=by omega
      subst this;exact h
    simp only[wG] at hno hyes
    generalize fT m a1[k].body a2[k].body=z at*
    generalize gg iB a1[k].names a2[k].names=z4 at*
    (refine run ?_;with_reducible repeat' first|exact trivial|(apply aJ.mk<;>intro hb)|apply bN.mk)
    ·refine aZ (n0:=H.length) hR hC' hcl (.same _ rfl) ⟨rfl,?_⟩
     rw[hno (NG hb)];rfl
    ·refine aZ (n0:=H.length) hR hC' hcl (.same _ rfl) ⟨rfl,?_⟩
     rw[hno (NH hb)];rfl
    ·refine aZ (n0:=H.length) hR hC' hcl (.same _ rfl) ⟨rfl,?_⟩
     rw[hno (NI hb)];rfl
    ·exact hK _ _ (k+1) (by omega) ⟨by omega,hyes (Pd (by assumption) (by assumption) (by assumption))⟩ (bI (n0:=H.length) [(H.length,0),(H.length+1,0)] hG hB hC' hcl)
   obtain rfl:k=a1.length:=by omega
   clear hK
   have q3:=hy3 ⟨h8,fun i h h'=>hall i h h' h⟩
   subst q3
   clear hall hn3 hy3
   (refine bK ?_;with_reducible repeat' first|exact trivial|(apply aJ.mk<;>intro hb)|apply bN.mk)
   exact aZ (n0:=H.length) hR hC' hcl (.same _ rfl) ⟨rfl,rfl⟩
  ·have hno:∀ y1 y2 y3,(u1.length≠u2.length→y1=false)→(b1.length≠b2.length→y2=false)→(a1.length≠a2.length→y3=false)→KU k1 k2 s1 s2 n1 n2 o1 o2 z1 y1 y2 y3=false:=by
    intro y1 y2 y3 h1 h2 h3
    rw[← Bool.not_eq_true]
    intro h
    apply hd
    unfold KU at h
    simp only[Bool.and_eq_true,decide_eq_true_eq] at h ⊢
    obtain⟨⟨⟨⟨⟨⟨⟨q1,q2⟩,q3⟩,q4⟩,q5⟩,q6⟩,q7⟩,q8⟩:=h
    refine⟨⟨⟨⟨⟨⟨⟨q1,q2⟩,q3⟩,q4⟩,q5⟩,?_⟩,?_⟩,?_⟩
    ·exact Classical.byContradiction fun h=>by rw[h1 h] at q6;cases q6
    ·exact Classical.byContradiction fun h=>by rw[h2 h] at q7;cases q7
    ·exact Classical.byContradiction fun h=>by rw[h3 h] at q8;cases q8
   rw[hno _ _ _ mz mz mz]
   refine bP [] Tryz.func27 Tryz.ntmps27 fun C R' hR hC hcl hB hC' X=>?_
   (refine iu ?_;with_reducible repeat' first|exact trivial|(apply aJ.mk<;>intro hb)|apply bN.mk)
   ·refine BE rfl ?_
    (refine bK ?_)
    exact aZ (n0:=H.length) hR hC' hcl (.same _ rfl) ⟨rfl,rfl⟩
   ·refine uH rfl (fun hx=>?_) (fun hx=>?_)
    ·(refine bK ?_)
     exact aZ (n0:=H.length) hR hC' hcl (.same _ rfl) ⟨rfl,rfl⟩
    ·exact absurd (by simp at hb hx ⊢;simp[hb,hx];omega) hd

def QA (G:Gl) (m:Nat):Prop:=∀ (e:Ex) (H:List av),e.wt≤m→e.wt<4294967296→aq Tryz.prog G 24 [e.sv] H (fun r H'=>H'=H∧r=e.sv)
theorem wx {l:List Ex} {i:Nat} (h:i<l.length):ag (l.take i)++[.agg l[i].cells]=ag (l.take (i+1)):=by rw[List.take_succ_eq_append_getElem h];simp only[aL,List.map_append,List.map_cons,List.map_nil];rfl
theorem oF {l:List Bd} {i:Nat} (h:i<l.length):ad (l.take i)++[.agg (.str l[i].name::(l[i].e.cells++[]))]=ad (l.take (i+1)):=by rw[List.append_nil,List.take_succ_eq_append_getElem h];simp only[az,List.map_append,List.map_cons,List.map_nil,Bd.sv,Bd.bf]
theorem wi {l:List Al} {i:Nat} (h:i<l.length):af (l.take i)++[.agg (.int .i64 l[i].kind:: .str l[i].name:: .int .i64 l[i].n:: .list 1 (l[i].names.map .str)::(l[i].body.cells++[]))]=af (l.take (i+1)):=by rw[List.append_nil,List.take_succ_eq_append_getElem h];simp only[bh,List.map_append,List.map_cons,List.map_nil,Al.sv,Al.bf]
@[simp] theorem KT (l:List Ex):List.take l.length (ag l)=ag l:=List.take_of_length_le (by rw[bV];exact Nat.le_refl _)
@[simp] theorem KR (l:List Bd):List.take l.length (ad l)=ad l:=List.take_of_length_le (by rw[az,List.length_map];exact Nat.le_refl _)
@[simp] theorem KP (l:List Al):List.take l.length (af l)=af l:=List.take_of_length_le (by rw[bh,List.length_map];exact Nat.le_refl _)
theorem AP (G:Gl) (hG:ah G):∀ m,QA G m
 |0,e,H,h,_=>absurd e.bZ (by omega)
 |m+1,e,H,hm,hw=>by
  have hrec:=AP G hG m
  obtain⟨kd,nm,nn,op,names,ae,binds,alts⟩:=e
  have hlen:=Ex.dn kd nm nn op names ae binds alts
  have hww:(Ex.mk kd nm nn op names ae binds alts).wt=1+names.length+cn ae+aV binds+cf alts:=by simp only[Ex.wt]
  refine bP [3,5,7,10,71] Tryz.func24 Tryz.ntmps24 fun C R' hR hC hcl hB hC' X=>?_
  (refine run ?_)
  refine aA (fun i:Nat=>[(1,.ptr H.length 0 0 0),(2,.ptr (H.length+1) 0 0 0),(3,.sl (H.length+2) 0 0 i),(4,.int .i64 i)]) (fun i=>H++[.cells 0 8 [.agg [.int .i64 kd,.str nm,.int .i64 nn,.int .i64 op,.list 1 (names.map .str),.list 8 (ag ae),.list 9 (ad binds),.list 12 (af alts)]],.cells 0 8 [.agg [.int .i64 0,.str [],.int .i64 0,.int .i64 0,.list 1 [],.list 8 [],.list 9 [],.list 12 []]],.cells 0 8 (ag (ae.take i))]) (fun i=>ae.length - i) (fun i=>i≤ae.length) 0 (Nat.zero_le _) ?_ ?_
  ·simp only[List.take_zero,ag]
   exact bI (n0:=H.length) [(H.length,0),(H.length+1,0),(H.length+3,0)] hG hB hC' hcl
  rintro K i hi hK
  rcases Nat.lt_or_ge i ae.length with hlt|hge
  ·have hx:=fg (List.getElem_mem hlt)
   have hcall:=fun L=>hrec ae[i] (H++L) (by omega) (by omega)
   have hsn:=wx hlt
   have hg:(ag ae)[i]? =some (.agg ae[i].cells):=by rw[aL];simp[hlt];rfl
   have htl:(ag (ae.take i)).length=i:=by rw[bV,List.length_take];omega
   generalize ae[i]=x at*
   have X:=iY aO hsn hg htl
   (refine run ?_;with_reducible repeat' first|exact trivial|(apply aJ.mk<;>intro hb)|apply bN.mk)
   refine br (hcall _) ?_
   rintro r H' ⟨rfl,rfl⟩
   (refine run ?_)
   refine hK _ _ (i+1) (by omega) (by omega) ?_
   exact bI (n0:=H.length) [(H.length,0),(H.length+1,0),(H.length+2,0)] hG hB hC' hcl
  clear hK
  obtain rfl:i=ae.length:=by omega
  rw[List.take_length]
  have hni:=Int.lt_irrefl (ae.length:Int)
  have X:=And.intro aO hni
  (refine run ?_)
  refine aA (fun i:Nat=>[(1,.ptr H.length 0 0 0),(2,.ptr (H.length+1) 0 0 0),(5,.sl (H.length+2) 0 0 i),(6,.int .i64 i)]) (fun i=>H++[.cells 0 8 [.agg [.int .i64 kd,.str nm,.int .i64 nn,.int .i64 op,.list 1 (names.map .str),.list 8 (ag ae),.list 9 (ad binds),.list 12 (af alts)]],.cells 0 8 [.agg [.int .i64 0,.str [],.int .i64 0,.int .i64 0,.list 1 [],.list 8 [],.list 9 [],.list 12 []]],.cells 0 9 (ad (binds.take i))]) (fun i=>binds.length - i) (fun i=>i≤binds.length) 0 (Nat.zero_le _) ?_ ?_
  ·simp only[List.take_zero,ad]
   exact bI (n0:=H.length) [(H.length,0),(H.length+1,0),(H.length+3,0)] hG hB hC' hcl
  rintro K i hi hK
  rcases Nat.lt_or_ge i binds.length with hlt|hge
  ·have hx:=ea (List.getElem_mem hlt)
   have hxg:=binds[i].dw
   have hcall:=fun L=>hrec binds[i].e (H++L) (by omega) (by omega)
   have hsn:=oF hlt
   have hg:(ad binds)[i]? =some (.agg (.str binds[i].name::binds[i].e.cells)):=by rw[az,List.getElem?_map,List.getElem?_eq_getElem hlt,Option.map_some,Bd.sv,Bd.bf]
   have htl:(ad (binds.take i)).length=i:=by rw[az,List.length_map,List.length_take];omega
   generalize binds[i].e=x at*
   generalize binds[i].name=s at*
   have X:=iY aO hsn hg htl
   (refine run ?_;with_reducible repeat' first|exact trivial|(apply aJ.mk<;>intro hb)|apply bN.mk)
   refine nB (hcall _) ?_
   rintro r H' ⟨rfl,rfl⟩
   (refine run ?_)
   refine hK _ _ (i+1) (by omega) (by omega) ?_
   exact bI (n0:=H.length) [(H.length,0),(H.length+1,0),(H.length+2,0)] hG hB hC' hcl
  clear hK
  obtain rfl:i=binds.length:=by omega
  rw[List.take_length]
  have hni:=Int.lt_irrefl (binds.length:Int)
  have X:=And.intro aO hni
  (refine run ?_)
  refine aA (fun i:Nat=>[(1,.ptr H.length 0 0 0),(2,.ptr (H.length+1) 0 0 0),(7,.sl (H.length+2) 0 0 i),(8,.int .i64 i)]) (fun i=>H++[.cells 0 8 [.agg [.int .i64 kd,.str nm,.int .i64 nn,.int .i64 op,.list 1 (names.map .str),.list 8 (ag ae),.list 9 (ad binds),.list 12 (af alts)]],.cells 0 8 [.agg [.int .i64 0,.str [],.int .i64 0,.int .i64 0,.list 1 [],.list 8 [],.list 9 [],.list 12 []]],.cells 0 12 (af (alts.take i))]) (fun i=>alts.length - i) (fun i=>i≤alts.length) 0 (Nat.zero_le _) ?_ ?_
  ·simp only[List.take_zero,af]
   exact bI (n0:=H.length) [(H.length,0),(H.length+1,0),(H.length+3,0)] hG hB hC' hcl
  rintro K i hi hK
  rcases Nat.lt_or_ge i alts.length with hlt|hge
  ·have hx:=dZ (List.getElem_mem hlt)
   have hxg:=alts[i].dw
   have hxn:=alts[i].jH
   have hcall:=fun L=>hrec alts[i].body (H++L) (by omega) (by omega)
   have hsn:=wi hlt
   have hg:(af alts)[i]? =some (.agg (.int .i64 alts[i].kind:: .str alts[i].name:: .int .i64 alts[i].n:: .list 1 (alts[i].names.map .str)::alts[i].body.cells)):=by rw[bh,List.getElem?_map,List.getElem?_eq_getElem hlt,Option.map_some,Al.sv,Al.bf]
   have htl:(af (alts.take i)).length=i:=by rw[bh,List.length_map,List.length_take];omega
   generalize alts[i]=aa at*
   obtain⟨ak,an,ann,ans,x⟩:=aa
   simp only[Al.kind,Al.name,Al.n,Al.names,Al.body] at hsn hg hcall hxg hxn
   have hx8:=x.au
   have hxd:List.drop 8 x.cells=[]:=List.drop_eq_nil_of_le (by omega)
   have X:=fc aO hg hx8
   (refine run ?_;with_reducible repeat' first|exact trivial|(apply aJ.mk<;>intro hb)|apply bN.mk)
   refine br (hcall _) ?_
   rintro r H' ⟨rfl,rfl⟩
   have hxu:SV.under H.length x.sv=true:=Ex.gx _ _
   have hxu2:SV.under H.length (.agg x.cells)=true:=Ex.gx _ _
   refine rB [(1,.ptr H.length 0 0 0),(2,.ptr (H.length+1) 0 0 0),(7,.sl (H.length+2) 0 0 i),(8,.int .i64 i),(9,.ptr (H.length+3) 0 0 0),(78,x.sv)] (H++[.cells 0 8 [.agg [.int .i64 kd,.str nm,.int .i64 nn,.int .i64 op,.list 1 (names.map .str),.list 8 (ag ae),.list 9 (ad binds),.list 12 (af alts)]],.cells 0 8 [.agg [.int .i64 0,.str [],.int .i64 0,.int .i64 0,.list 1 [],.list 8 [],.list 9 [],.list 12 []]],.cells 0 12 (af (alts.take i)),.cells 0 12 [.agg (.int .i64 ak:: .str an:: .int .i64 ann:: .list 1 (ans.map .str)::x.cells)]]) (bI (n0:=H.length) [(H.length,0),(H.length+1,0),(H.length+2,0),(H.length+3,0)] hG hB hC' hcl
    (hk:= .c (by rw[bL];rfl) (Nat.le_refl _) (Nat.zero_le _) (b7.same jF) (.c (by rw[aH];rfl) (by omega) (Nat.zero_le _) (b7.same jF) (.c (by rw[aH];rfl) (by omega) (Nat.zero_le _) (b7.same jF) (.c (by rw[aH];rfl) (by omega) (Nat.zero_le _) (.cons _ _ _ _ (.agg _ _ (.cons _ _ _ _ (.same _ rfl) (.cons _ _ _ _ (.same _ rfl) (.cons _ _ _ _ (.same _ rfl) (.cons _ _ _ _ (bF.sf (by rw[aH];rfl) (by omega) (by simp<;>omega) (by rw[List.drop_zero,List.take_of_length_le (by simp)]) (bj _ _)) (b7.same (x.aw _))))))) .nil) .nil))))) ?_
   have X:=oD aO hsn hg htl hx8 hxd
   (refine run ?_)
   refine hK _ _ (i+1) (by omega) (by omega) ?_
   exact bI (n0:=H.length) [(H.length,0),(H.length+1,0),(H.length+2,0)] hG hB hC' hcl
  clear hK
  obtain rfl:i=alts.length:=by omega
  rw[List.take_length]
  have hni:=Int.lt_irrefl (alts.length:Int)
  have X:=And.intro aO hni
  (refine run ?_)
  exact aZ (n0:=H.length) hR hC' hcl (y:=(Ex.mk kd nm nn op names ae binds alts).sv) (.agg _ _ (.cons _ _ _ _ (.same _ rfl) (.cons _ _ _ _ (.same _ rfl) (.cons _ _ _ _ (.same _ rfl) (.cons _ _ _ _ (.same _ rfl) (.cons _ _ _ _ (.same _ jF) (.cons _ _ _ _ (.same _ jF) (.cons _ _ _ _ (.same _ jF) (.cons _ _ _ _ (bF.sf (by rw[aH];rfl) (by omega) (by simp) (by simp) (bA _ _)) .nil))))))))) ⟨rfl,rfl⟩
@[simp] theorem KS (l:List Cn):List.take l.length (ay l)=ay l:=List.take_of_length_le (by rw[cU];exact Nat.le_refl _)
theorem K5 (G:Gl) (hG:ah G) (p:Pg) (H:List av) (hw:aV p.binds<4294967296) (hcn:p.cons.length<1099511627776):aq Tryz.prog G 9 [p.sv] H (fun r H'=>H'=H∧r=p.sv):=by
 obtain⟨cons,binds⟩:=p
 simp only at hw hcn
 have hle:=cM binds
 have hclo:=AP G hG (aV binds)
 rw[show(Pg.mk cons binds).sv= .agg [.list 4 (ay cons),.list 9 (ad binds)] from rfl] at*
 have cC:=fun n=>aX n cons
 refine bP [5] Tryz.func9 Tryz.ntmps9 fun C R' hR hC hcl hB hC' X=>?_
 (refine run ?_)
 refine aA (fun i:Nat=>[(1,.ptr H.length 0 0 0),(2,.ptr (H.length+1) 0 0 0),(3,.ptr (H.length+2) 0 0 0),(4,.int .i64 i)]) (fun i=>H++[.cells 0 2 [.agg [.list 4 (ay cons),.list 9 (ad binds)]],.cells 0 2 [.agg [.nil,.nil]],.cells 0 2 [.agg [.list 4 (ay cons),.sl (H.length+3) 0 0 i]],.cells 0 9 (ad (binds.take i))]) (fun i=>binds.length - i) (fun i=>i≤binds.length) 0 (Nat.zero_le _) ?_ ?_
 ·refine Wk.trans (CU (id:=H.length+3) (i:=0) (j:=1) 9 ((aH ..).trans rfl) rfl rfl) ?_
  simp only[bW,List.set_cons_succ,List.set_cons_zero,List.append_assoc,List.cons_append,List.nil_append,List.length_append,List.length_cons,List.length_nil,Nat.reduceAdd,List.take_zero,ad]
  skip
  exact bI (n0:=H.length) [(H.length,0),(H.length+1,0),(H.length+3,0),(H.length+4,0)] hG hB hC' hcl
 rintro K i hi hK
 rcases Nat.lt_or_ge i binds.length with hlt|hge
 ·have hx:=ea (List.getElem_mem hlt)
  have hxg:=binds[i].dw
  have hcall:=fun L=>hclo binds[i].e (H++L) (by omega) (by omega)
  have hsn:=oF hlt
  have hg:(ad binds)[i]? =some (.agg (.str binds[i].name::binds[i].e.cells)):=by rw[az,List.getElem?_map,List.getElem?_eq_getElem hlt,Option.map_some,Bd.sv,Bd.bf]
  have htl:(ad (binds.take i)).length=i:=by rw[az,List.length_map,List.length_take];omega
  generalize binds[i].e=x at*
  generalize binds[i].name=s at*
  have X:=iY aO hsn hg htl
  (refine run ?_;with_reducible repeat' first|exact trivial|(apply aJ.mk<;>intro hb)|apply bN.mk)
  refine nB (hcall _) ?_
  rintro r H' ⟨rfl,rfl⟩
  (refine run ?_)
  refine hK _ _ (i+1) (by omega) (by omega) ?_
  exact bI (n0:=H.length) [(H.length,0),(H.length+1,0),(H.length+2,0),(H.length+3,0)] hG hB hC' hcl
 clear hK
 obtain rfl:i=binds.length:=by omega
 rw[List.take_length]
 have hni:=Int.lt_irrefl (binds.length:Int)
 have X:=And.intro aO hni
 (refine run ?_)
 exact aZ (n0:=H.length) hR hC' hcl (y:=(Pg.mk cons binds).sv) (.agg _ _ (.cons _ _ _ _ (.same _ jF) (.cons _ _ _ _ (bF.sf (by rw[aH];rfl) (by omega) (by simp) (by simp) (aK _ _)) .nil))) ⟨rfl,rfl⟩
theorem x9 (G:Gl) (hG:ah G) (p:Pg) (H:List av) (hw:aV p.binds<549755813888) (hcn:p.cons.length<1099511627776):aq Tryz.prog G 11 [p.sv,p.sv] H (fun r H'=>H'=H∧r= .bool true):=by
 obtain⟨cons,binds⟩:=p
 simp only at hw hcn
 have hle:=cM binds
 rw[show(Pg.mk cons binds).sv= .agg [.list 4 (ay cons),.list 9 (ad binds)] from rfl] at*
 have cC:=fun n=>aX n cons
 refine bP [] Tryz.func11 Tryz.ntmps11 fun C R' hR hC hcl hB hC' X=>?_
 (refine run ?_)
 refine aA (fun i:Nat=>[(2,.ptr H.length 0 0 0),(3,.ptr (H.length+1) 0 0 0),(5,.int .i64 i)]) (fun i=>H++[.cells 0 2 [.agg [.list 4 (ay cons),.list 9 (ad binds)]],.cells 0 2 [.agg [.list 4 (ay cons),.list 9 (ad binds)]]]) (fun i=>cons.length - i) (fun i=>i≤cons.length) 0 (Nat.zero_le _) ?_ ?_
 ·exact bI (n0:=H.length) [(H.length,0),(H.length+1,0)] hG hB hC' hcl
 rintro K i hi hK
 rcases Nat.lt_or_ge i cons.length with hlt|hge
 ·have hg:(ay cons)[i]? =some (.agg [.str cons[i].name,.int .i64 cons[i].arity,.int .i64 cons[i].tag,.int .i64 cons[i].family]):=mo cons hlt
  generalize cons[i]=c at*
  have X:=And.intro aO hg
  (refine run ?_;with_reducible repeat' first|exact trivial|(apply aJ.mk<;>intro hb)|apply bN.mk)
  refine hK _ _ (i+1) (by omega) (by omega) ?_
  exact bI (n0:=H.length) [(H.length,0),(H.length+1,0)] hG hB hC' hcl
 clear hK
 obtain rfl:i=cons.length:=by omega
 have X:=And.intro aO (Int.lt_irrefl (cons.length:Int))
 (refine run ?_)
 refine aA (fun i:Nat=>[(2,.ptr H.length 0 0 0),(3,.ptr (H.length+1) 0 0 0),(6,.int .i64 i)]) (fun i=>H++[.cells 0 2 [.agg [.list 4 (ay cons),.list 9 (ad binds)]],.cells 0 2 [.agg [.list 4 (ay cons),.list 9 (ad binds)]]]) (fun i=>binds.length - i) (fun i=>i≤binds.length) 0 (Nat.zero_le _) ?_ ?_
 ·exact bI (n0:=H.length) [(H.length,0),(H.length+1,0)] hG hB hC' hcl
 rintro K i hi hK
 rcases Nat.lt_or_ge i binds.length with hlt|hge
 ·have hx:=ea (List.getElem_mem hlt)
  have hxg:=binds[i].dw
  have c1:=fun H=>CC G hG binds[i].e.wt binds[i].e binds[i].e H (Nat.le_refl _) (by omega) (by omega)
  rw[vM _ _ (Nat.le_refl _)] at c1
  have hg:(ad binds)[i]? =some (.agg (.str binds[i].name::binds[i].e.cells)):=by rw[az,List.getElem?_map,List.getElem?_eq_getElem hlt,Option.map_some,Bd.sv,Bd.bf]
  generalize binds[i].e=x at*
  generalize binds[i].name=s at*
  have X:=And.intro aO hg
  (refine run ?_;with_reducible repeat' first|exact trivial|(apply aJ.mk<;>intro hb)|apply bN.mk)
  refine hK _ _ (i+1) (by omega) (by omega) ?_
  exact bI (n0:=H.length) [(H.length,0),(H.length+1,0)] hG hB hC' hcl
 clear hK
 obtain rfl:i=binds.length:=by omega
 have X:=And.intro aO (Int.lt_irrefl (binds.length:Int))
 (refine run ?_)
 exact aZ (n0:=H.length) hR hC' hcl (.same _ rfl) ⟨rfl,rfl⟩
theorem rO (G:Gl) (hG:ah G) (hB0:dW G 0) (C0:Cx) (hb0:G.base=some C0) (hl0:lZ C0) (haw:∀ H,aq Tryz.prog G 8 [] H (fun r H'=>H'=H∧r= .bool true)) (p:Pg) (H:List av)
 (hpw:aV p.binds<67108864) (hcn:p.cons.length<1073741824) (hns:∀ s∈aU p.binds,s.length<4294967296):
 aq Tryz.prog G 3 [p.sv] H (fun r H'=>H'=H∧r= .bool true):=by
 have hlint:=fun H=>iM G hG p H (by omega) (by omega)
 have hpg:bJ p=0→mf p.cons (fun s=>s.length<4294967296) L0 p:=fun h0=>vp h0 hpw hns
 have hrb:=fun k H=>K9 G hG p k H (by omega) (by omega)
 have hrn:=fun h0 hcs H=>C6 G hG hB0 C0 hb0 hl0 p (hpg h0) hcs (fun i hi=>(fh i hi).2) (fun s h=>h) (by unfold L0;omega) 20 (by omega) H
 have hrm:=fun h0 hcs H=>C6 G hG hB0 C0 hb0 hl0 p (hpg h0) hcs (fun i hi=>(fh i hi).2) (fun s h=>h) (by unfold L0;omega) 19 (by omega) H
 have hin:=fun h0 hcs=>nh hcs (fun i hi=>(fh i hi).2) 19 p _ (hpg h0) (by unfold L0;omega)
 have hin2:=fun h0 hcs=>nh hcs (fun i hi=>(fh i hi).2) 20 p _ (hpg h0) (by unfold L0;omega)
 have hps:=fun h0 hcs H=>nD G hG hB0 C0 hb0 hl0 (gu 19 p) (hin h0 hcs).1 hcs (fun i hi=>(fh i (by unfold NN L0 at hi;omega)).2) (fun s h=>h) (by unfold L0;omega) H
 have hp20:cD (gu 19 p)=gu 20 p:=xV 19 p
 rw[hp20] at hps
 clear hp20
 have hsq:=fun h0 hcs H=>x9 G hG (gu 20 p) H (by have:=(hin2 h0 hcs).1.wt;unfold L0 at this;omega) (by rw[(hin2 h0 hcs).1.cons];omega)
 have hqc:bJ p=0→p.cons.length≤1000→(gu 20 p).cons=p.cons:=fun h0 hcs=>(hin2 h0 hcs).1.cons
 have hmc:bJ p=0→p.cons.length≤1000→(gu 19 p).cons=p.cons:=fun h0 hcs=>(hin h0 hcs).1.cons
 have hcp:=fun H=>K5 G hG p H (by omega) (by omega)
 have hsp:=fun H=>x9 G hG p H (by omega) (by omega)
 generalize bJ p=S at*
 generalize gu 20 p=R at*
 generalize gu 19 p=Q at*
 clear hpg hin hin2
 obtain⟨cons,binds⟩:=p
 obtain⟨rc,R⟩:=R
 obtain⟨qc,Q⟩:=Q
 rw[show(Pg.mk cons binds).sv= .agg [.list 4 (ay cons),.list 9 (ad binds)] from rfl] at*
 rw[show(Pg.mk rc R).sv= .agg [.list 4 (ay rc),.list 9 (ad R)] from rfl] at*
 rw[show(Pg.mk qc Q).sv= .agg [.list 4 (ay qc),.list 9 (ad Q)] from rfl] at*
 dsimp only at*
 have cC:=fun n=>aX n cons
 have l1:=cU cons
 have c1:=haw
 refine bP [] Tryz.func3 Tryz.ntmps3 fun C R' hR hC hcl hB hC' X=>?_
 (refine run ?_)
 refine br (tH G hG cons binds _ (by omega) (by omega) hns) ?_
 rintro r H' ⟨rfl,b,rfl,hsm⟩
 cases b
 ·(refine run ?_)
  exact aZ (n0:=H.length) hR hC' hcl (.same _ rfl) ⟨rfl,rfl⟩
 have hcs:=hsm rfl
 have c2:=hlint
 have c3:=hcp
 have c4:=hsp
 by_cases h0:S=0
 rotate_left
 ·have c5:=fun H=>hrb 20 H h0
  have X:=And.intro aO h0
  (refine run ?_)
  exact aZ (n0:=H.length) hR hC' hcl (.same _ rfl) ⟨rfl,by simp[aC]⟩
 subst h0
 have e1:=(hqc rfl hcs).symm
 subst e1
 have e2:=(hmc rfl hcs).symm
 subst e2
 have c5:=hrn rfl hcs
 have X:=And.intro aO l1
 (refine run ?_)
 refine aA (fun i:Nat=>[(1,.ptr H.length 0 0 0),(2,.bool false),(3,.ptr (H.length+1) 0 0 0),(4,.ptr (H.length+2) 0 0 0),(5,.int .i64 0),(6,.int .i64 i)]) (fun i=>H++[.cells 0 2 [.agg [.list 4 (ay cons),.list 9 (ad binds)]],.cells 0 2 [.agg [.list 4 (ay cons),.list 9 (ad binds)]],.cells 0 2 [.agg [.list 4 (ay cons),.list 9 (ad R)]]]) (fun i=>cons.length - i) (fun i=>i≤cons.length) 0 (Nat.zero_le _) ?_ ?_
 ·exact Wk.sub (by simp[aW,look])
 rintro K i hi hK
 rcases Nat.lt_or_ge i cons.length with hlt|hge
 ·have hg:(ay cons)[i]? =some (.agg [.str cons[i].name,.int .i64 cons[i].arity,.int .i64 cons[i].tag,.int .i64 cons[i].family]):=mo cons hlt
  generalize cons[i]=c at*
  have X:=fc aO l1 hg
  (refine run ?_;with_reducible repeat' first|exact trivial|(apply aJ.mk<;>intro hb)|apply bN.mk)
  refine hK _ _ (i+1) (by omega) (by omega) ?_
  exact Wk.sub (by simp[aW,look])
 clear hK
 obtain rfl:i=cons.length:=by omega
 clear c3 c4
 have c6:=hrm rfl hcs
 have c3:=hps rfl hcs
 have c4:=hsq rfl hcs
 have X:=fc aO l1 (Int.lt_irrefl (cons.length:Int))
 (refine run ?_)
 exact aZ (n0:=H.length) hR hC' hcl (.same _ rfl) ⟨rfl,by simp[aC]⟩
end Go.Proofs.YtjdfoonhnmpkdaaGreatDoor
section
open Go
namespace Go.Proofs.YtjdfoonhnmpkdaaGreatDoor.simplifyKeeps
open Go Go.ChangeShapes Go.WideShapes Go.RowKit
set_option maxRecDepth 100000 in
theorem je (H:Type) (enc:TypeId×Value→H) (W:World) (base:Nat) (args:Array Value) (ds gs:List (DataW H)) (before:List MemPlace)
 (hval:∀ (j:Nat) t v,Tryz.f3.params[j]? =some t→args[j]? =some v→Value.okWide Tryz.prog W .any base t v)
 (hW:DataW.Whole enc Tryz.prog Tryz.f3.params.toList Rows.simplifyKeepsSpec.vars false W args.toList ds gs before) (hL:laidMetH Tryz.prog Rows.simplifyKeepsUptoRow.laid W) (hk:Rows.uptoSmall H (ds++gs)=true):
 Calls Tryz.prog 3 args W fun e W'=>∃ v,e= .returned v∧Rows.simplifyKeepsSpec.post enc Tryz.prog Tryz.f3 false true false false W args v W':=by
 have hW':=hW
 obtain⟨p,q,hA0,hV,rfl,hfz,hnd⟩:=hW
 have hA:DataW.TrodAll enc Tryz.prog W 0 (fun _=>true) true Tryz.f3.params.toList args.toList ds p:=hA0
 rw[Tryz.params3] at hA hval
 obtain⟨v0,vs0,d0,ds0,p0,q0,hargs,rfl,rfl,h0,r0⟩:=trodAll_cons hA
 obtain⟨rfl,rfl,rfl⟩:=trodAll_nil r0
 obtain rfl:args= #[v0]:=by cases args;simp_all
 obtain⟨rfl,rfl⟩:=trodVars_none hV
 obtain⟨cs0,rfl,_⟩:=okWide_struct Tryz.underlying25 (hval 0 25 v0 (by simp) (by simp))
 obtain⟨fuel0,hf0⟩:=h0
 obtain⟨e0,hg0,_,hw0⟩:=zW fuel0 _ _ hf0
 have hbulk:e0.wt≤1048576:=by
  simp only[Rows.uptoSmall,decide_eq_true_eq,List.append_nil,Rows.uptoBulkAll] at hk
  simp only at hw0
  omega
 refine(lL (args:=[e0.sv]) (vs:=[.agg cs0]) (rO (GB W) (im W) (yG W) (vt W) rfl (sC hL) (pG (GB W) (im W) (vt W) rfl (sC hL)) e0 [] (by have:=v8 e0.binds;unfold Pg.wt at hbulk;omega) (by have:=tB (f:=Cn.wt) (fun x=>by unfold Cn.wt;omega) e0.cons;unfold Pg.wt at hbulk;omega) (fun s hs=>by have:=mi hs;unfold Pg.wt at hbulk;omega)) (L6 W) ?_ (fun W'=>qz laid rfl hW' ?_ rfl (by kernel_rfl) rfl rfl rfl)).mono ?_
 ·refine ax.bG ?_ (ax.bQ)
  ·simp only[Pg.sv,aB];exact⟨cs0.toList,hg0.1,hg0.2,rfl⟩
 ·intro t ht
  rw[Tryz.params3] at ht
  simp only[List.mem_cons,List.not_mem_nil,or_false] at ht
  rcases ht with rfl<;>exact⟨by kernel_rfl,of_decide_eq_true (by kernel_rfl)⟩
 ·rintro _ W' ⟨v,rfl,rfl,hp⟩
  exact⟨_,rfl,hp⟩
theorem jr (os:Os):laidMet Tryz.prog Rows.simplifyKeepsUptoRow.laid ((dD os).forCall (fun _ _=>0) ⟨#[],#[Value.agg #[.slice none 0 0,.slice none 0 0]],[]⟩).memory:=
 laidMet_of_run' 8 (by kernel_rfl) (by kernel_rfl)
theorem reads (os:Os) {H:Type} (enc:TypeId×Value→H):∃ places,DataW.whole enc Tryz.prog ((dD os).forCall (fun _ _=>0) ⟨#[],#[Value.agg #[.slice none 0 0,.slice none 0 0]],[]⟩).memory Tryz.f3.params.toList Rows.simplifyKeepsSpec.vars false (#[Value.agg #[.slice none 0 0,.slice none 0 0]]:Array Value).toList 8=some ([.agg [.nil,.nil]],[],places):=
 ⟨[],by kernel_rfl⟩
set_option maxRecDepth 100000 in
theorem lifted (os:Os) (started:os.Started) (H:Type) (enc:TypeId×Value→H) (F:Stop.Interp):
 ReturnsInHanded {} Tryz.checked os 3 .any ((Rows.OpenSpec.upto Rows.simplifyKeepsSpec).preRow enc Tryz.prog Tryz.f3 Rows.simplifyKeepsUptoRow.domain false Rows.simplifyKeepsUptoRow.laid) (((Rows.OpenSpec.upto Rows.simplifyKeepsSpec).at F).post enc Tryz.prog Tryz.f3 false true false false):=by
 obtain⟨places,hx⟩:=reads os enc
 refine returnsInHanded_of_row (C:=Tryz.checked) (s:=Rows.OpenSpec.upto Rows.simplifyKeepsSpec) own started (by kernel_rfl) Tryz.func3
  (witness_row_at (enc:=enc) (C:=Tryz.checked) false (dD os) #[Value.agg #[.slice none 0 0,.slice none 0 0]] rfl (by kernel_rfl) (by kernel_rfl) (by kernel_rfl)
   (OpenSpec.preRow_of_cond 8 hx (by kernel_rfl) (fun k hk=>by cases hk;kernel_rfl) (by kernel_rfl) (jr os))) ?_
 intro W base args ds gs before hval hW _ hcond _ hL _ _
 exact je H enc W base args ds gs before hval hW hL (hcond _ rfl)
theorem said:Rows.SimplifyKeepsUptoSaid:=
 OpenClaim.holds_of_cond 3 Tryz.f3 rfl rfl rfl rfl rfl rfl rfl ⟨rfl,rfl,rfl,rfl,rfl⟩ rfl rfl rfl rfl rfl (by kernel_rfl) Tryz.func3 (by kernel_rfl)
  (of_decide_eq_true (by kernel_rfl)) (by unfold Func.isWrapper;first|(rw[if_pos (by decide+kernel)];kernel_rfl)|(rw[if_neg (by decide+kernel)];exact⟨rfl,rfl⟩))
  (fun os started H enc _ F=>by rw[OpenClaim.pre_eq_preRow];exact lifted os started H enc F)
theorem plain (f:FuncId) (fn:Func) (hf:Tryz.pinned.checked.prog.funcNamed "teasel/teasellaw14.SimplifyKeeps" =some f) (hfn:Tryz.pinned.checked.prog.funcs[f]? =some fn):
 true=Tryz.pinned.checked.prog.looks []∧∀ (j:Nat) t,fn.params[j]? =some t→Tryz.pinned.checked.prog.wantsStandIn t=false:=by
 obtain rfl:f=3:=Option.some.inj ((show Tryz.prog.funcNamed "teasel/teasellaw14.SimplifyKeeps" =some 3 by kernel_rfl).symm.trans hf)|>.symm
 obtain rfl:fn=Tryz.f3:=(Option.some.inj (Tryz.func3.symm.trans hfn)).symm
 refine⟨by kernel_rfl,fun j t ht=>?_⟩
 rw[Tryz.params3] at ht
 have hm:=Array.mem_of_getElem? ht
 have hm2:t=25:=by
  have h3:t=25:=by simpa using hm
  rcases h3 with rfl<;>simp
 subst hm2
 ·exact(show Tryz.prog.wantsStandIn 25=false by kernel_rfl)
theorem proved:Rows.SimplifyKeepsUptoCardSaid:=
 Claim7.holds_tied_plain_at .later [] _ _ _ _ said (fun _ h=>by cases h) (by kernel_rfl) (fun _ h=>by cases h) simplifyKeepsUpto_row_tie rfl ⟨rfl,rfl⟩ (by kernel_rfl) rfl plain (by kernel_rfl)
end Go.Proofs.YtjdfoonhnmpkdaaGreatDoor.simplifyKeeps
end
namespace Go.Proofs.YtjdfoonhnmpkdaaGreatDoor
open Go
end Go.Proofs.YtjdfoonhnmpkdaaGreatDoor
