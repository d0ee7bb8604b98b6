/- A part of the proof: SwK, X2, SwL, SwM, SwN, SwO, K2, X1, Sh2, Sh3, Q1, X5, X3, U1, U2, U4, U8, V1, W1, W2, W3, W4, Shelf, ShI, W5. Names and spaces are cut short by program. -/
import Derived.Test.YtjdfoonhnmpkdaaGreatDoorMe
import Derived.Test.YtjdfoonhnmpkdaaGreatDoorRows
import Derived.WalkKit
import Derived.ProofKit
import Derived.OpenShut
import Derived.JoinedCond
import Derived.Carry
import Derived.ChangeMaps5
import Derived.ChangeSame
import Derived.Lib.AtoiErrMem
import Derived.Test.YtjdfoonhnmpkdaaGreatDoorCards
import Derived.Test.YtjdfoonhnmpkdaaGreatDoorTie
import Derived.Deep.DeepHandedRow
import Derived.Lib.LaidTab
import Derived.Stop.LaidErr
import Derived.Shelf.Strconv.AtoiErr
import Derived.Shelf.SlMaps.Clone
import Derived.Test.YtjdfoonhnmpkdaaGreatDoorProg
import Derived.Shelf.LaysM
import Derived.Shelf.Strconv.Itoa3
import Derived.Shelf.Strconv.AtoiAll
import Derived.Lib.SmallJoins
import Derived.Lib.AppendIntMem
import Derived.Sort.KeysCollected
import Derived.Shelf.Sort.Plain
import Derived.Shelf.Slices.In.SortNone
set_option linter.unusedSimpArgs false
set_option linter.unusedVariables false
set_option maxRecDepth 10000
set_option maxHeartbeats 4000000
namespace Go.Proofs.YtjdfoonhnmpkdaaGreatDoor
open Go
section
open Go Go.ChangeShapes Go.WideShapes Go.RowKit
def vt (W:World):Cx:=⟨fun _=>none,[],W⟩
theorem FF {W:World} {b:Nat} (h:b<W.heap.size):(vt W).qZ b:=⟨h,fun⟨_,_,_,ht⟩=>by cases ht⟩
theorem OK (W:World):aM (vt W):=⟨fun id B h=>by simp[vt] at h,fun i j b o o' _ _ h=>by cases h⟩
section
variable {H:Type} {enc:TypeId×Value→H} {P:Program} {W:World} {sp:Nat→Bool}
def Good (W:World) (xs:List SV) (cs:List Value):Prop:=ax (vt W) xs cs∧∀ v∈cs,v.oneCell'=true
def Rd (enc:TypeId×Value→H) (P:Program) (W:World) (sp:Nat→Bool) (n:Nat) (t:TypeId) {α:Type} (f:α→List SV) (wt:α→Nat):Prop:=
 ∀ cs x,DataW.trod enc P W 0 sp true n t cs=some x→∃ a:α,Good W (f a) cs∧cs.length=P.cellsOf t∧wt a≤Rows.uptoBulk x.1
theorem Good.nil:Good W [] []:=⟨ax.bQ,by simp⟩
theorem Good.append {xs ys:List SV} {cs ds:List Value} (h:Good W xs cs) (h':Good W ys ds):Good W (xs++ys) (cs++ds):=
 ⟨h.1.append h'.1,fun v hv=>(List.mem_append.1 hv).elim (h.2 v) (h'.2 v)⟩
theorem Good.cut {xs ys:List SV} {cs:List Value} {o k:Nat} (h:Good W xs ((cs.drop o).take k)) (h':Good W ys (cs.drop (o+k))):Good W (xs++ys) (cs.drop o):=by
 have:=h.append h'
 rwa[← List.drop_drop,List.take_append_drop] at this
theorem Good.one {x:SV} {v:Value} (h:aB (vt W) x v) (hv:v.oneCell'=true):Good W [x] [v]:=
 ⟨by simp only[ax];exact⟨v,[],h,rfl,rfl⟩,by simpa using hv⟩
theorem Kz {k:IntKind} {n:Int} (h:(Lit.int k n).wf=true):k.min≤n∧n≤k.max:=by
 simpa [Lit.wf] using h
theorem OL {n:Nat} {t:TypeId} {k:IntKind} (ht:P.underlying t=some (.int k)) (hc:P.cellsOf t=1):Rd enc P W sp n t (fun i:Int=>[.int k i]) (fun _=>1):=by
 intro cs x h
 obtain⟨i,rfl,rfl,hw⟩:=DataW.trod_int ht h
 exact⟨i,.one (by simp only[aB];exact⟨trivial,Kz hw⟩) rfl,by simp[hc],by simp[Rows.uptoBulk]⟩
theorem OM {n:Nat} {t:TypeId} (ht:P.underlying t=some .string) (hc:P.cellsOf t=1):Rd enc P W sp n t (fun s:aD=>[.str s]) (fun s=>s.length+1):=by
 intro cs x h
 obtain⟨i,rfl,rfl,hs⟩:=DataW.trod_string ht h
 exact⟨i.data.toList,.one (by simp only[aB];exact⟨trivial,by simpa using hs⟩) rfl,by simp[hc],by simp[Rows.uptoBulk]⟩
theorem sg {a:Addr} {n:Nat} {cs:List Value} (hn:0<n) (h:W.cells? 0 a n=some cs):a.spot=none∧cs.length=n∧W.rangeAt a.block a.off cs∧a.block<W.heap.size:=by
 obtain⟨_,hl,hc⟩:=World.cells?_some h
 have h0:=hc 0 hn
 obtain⟨c0,e0⟩:∃ c0,cs[0]? =some c0:=⟨cs[0],by simp[hl,hn]⟩
 rw[e0] at h0
 have hs:a.spot=none:=by simpa [Addr.add] using World.cell?_spot h0
 obtain⟨b,o,s⟩:=a
 cases hs
 refine⟨rfl,hl,fun j v hv=>?_,?_⟩
 ·have hj:j<n:=by
   rcases Nat.lt_or_ge j n with h1|h1
   ·exact h1
   ·rw[List.getElem?_eq_none (by omega)] at hv;cases hv
  have:=hc j hj
  rwa[Addr.add_mid,hv] at this
 ·have h1:W.cell? ⟨b,o,none⟩=some c0:=by simpa [Addr.add] using h0
  have:W.heap[b]? ≠none:=fun e=>by simp[World.cell?,e] at h1
  simpa using this
def bx (b:Bool) (x:List SV):SV:=if b then .agg x else x.headD .nil
def NP (b:Bool) (v:List Value):Value:=if b then .agg v.toArray else v.headD (.bool false)
theorem NO {b:Bool} {xs:List SV} {cs:List Value} {n:Nat} (h:Good W xs cs) (hl:cs.length=n) (hb:b=true∨n=1):aB (vt W) (bx b xs) (NP b cs)∧(NP b cs).cells.toList=cs:=by
 cases b with
 |true=>exact⟨by simp only[bx,NP,aB,if_true];exact⟨cs,h.1,h.2,rfl⟩,by simp[NP,Value.cells]⟩
 |false=>
  have hn:n=1:=by simpa using hb
  subst hn
  match cs,hl with
  |[v],_=>
   obtain⟨h1,h2⟩:=h
   match xs,h1 with
   |[],h1=>simp[ax] at h1
   |x::xs,h1=>
    simp only[ax] at h1
    obtain⟨u,us,h3,_,h4⟩:=h1
    cases h4
    have hv:v.oneCell'=true:=h2 v (by simp)
    exact⟨h3,by cases v<;>simp_all [NP,Value.cells,Value.oneCell']⟩
theorem sK {α:Type} {e:TypeId} {b:Bool} {f:α→List SV} {wt:α→Nat} {n m:Nat} (hsz:P.cellsOf e=n) (hn:0<n) (hb:b=true∨n=1) (he:Rd enc P W sp m e f wt):
 ∀ (len:Nat) (dQ off:Nat) (elems:List (DataW H×List MemPlace)),elems.length=len→
  (∀ i,i<len→(W.cells? 0 ⟨dQ,off+i*n,none⟩ n).bind (DataW.trod enc P W 0 sp true m e)=elems[i]?)→
  ∃ (l:List α) (vs:List Value),l.length=len∧ax (vt W) (l.map fun x=>bx b (f x)) vs∧(∀ u∈vs,u.cells.size=n∧cq u)∧W.rangeAt dQ off (cellsOf vs)∧(len=0∨dQ<W.heap.size)∧
   (l.map wt).sum≤Rows.uptoBulkAll (elems.map (·.1))
 |0,dQ,off,elems,hl,_=>by
  have:elems=[]:=List.length_eq_zero_iff.1 hl
  subst this
  exact⟨[],[],rfl,ax.bQ,by simp,by intro j v hv;simp[cellsOf] at hv,.inl rfl,by simp⟩
 |len+1,dQ,off,[],hl,_=>by simp at hl
 |len+1,dQ,off,y::elems,hl,hi=>by
  have h0:=hi 0 (by omega)
  simp only[Nat.zero_mul,Nat.add_zero,List.getElem?_cons_zero,Option.bind_eq_some_iff] at h0
  obtain⟨cs,hc,ht⟩:=h0
  obtain⟨_,hlen,hr,hblk⟩:=sg hn hc
  obtain⟨a,ha,_,hw⟩:=he cs y ht
  obtain⟨l,vs,h1,h2,h3,h4,_,h5⟩:=sK hsz hn hb he len dQ (off+n) elems (by simpa using hl) (fun i hi'=>by
   have:=hi (i+1) (by omega)
   rw[List.getElem?_cons_succ] at this
   rw[← this]
   have:off+n+i*n=off+(i+1)*n:=by rw[Nat.succ_mul];omega
   rw[this])
  obtain⟨h6,h7⟩:=NO (b:=b) ha hlen hb
  refine⟨a::l,NP b cs::vs,by simp[h1],?_,?_,?_,.inr hblk,?_⟩
  ·simp only[List.map_cons,ax];exact⟨_,_,h6,h2,rfl⟩
  ·intro u hu
   rcases List.mem_cons.1 hu with rfl|hu
   ·refine⟨by rw[← Array.length_toList,h7,hlen],fun v hv=>?_⟩
    rw[h7] at hv
    exact ha.2 v hv
   ·exact h3 u hu
  ·have:cellsOf (NP b cs::vs)=cs++cellsOf vs:=by simp[cellsOf,h7]
   rw[this]
   exact gq hr (by rw[hlen];exact h4)
  ·simp only[List.map_cons,List.sum_cons,Rows.uptoBulkAll];omega
theorem jx {α:Type} {t e:TypeId} (b:Bool) {f:α→List SV} {wt:α→Nat} {n N:Nat} (ht:P.underlying t=some (.slice e)) (hc:P.cellsOf t=1) (hsz:P.cellsOf e=n) (hn:0<n) (hb:b=true∨n=1)
 (he:∀ m,N=m+1→Rd enc P W sp m e f wt):Rd enc P W sp N t (fun l:List α=>[.list n (l.map fun x=>bx b (f x))]) (fun l=>1+(l.map wt).sum):=by
 intro cs x h
 rcases DataW.trod_slice ht h with⟨rfl,rfl⟩|⟨a,len,cap,elems,rest,m,rfl,rfl,rfl,_,hlc,hcm,hel,hi,_⟩
 ·exact⟨[],.one (by simp only[aB];exact⟨none,0,rfl,Nat.le_refl _,Nat.zero_le _,.inl rfl⟩) rfl,by simp[hc],by simp[Rows.uptoBulk]⟩
 ·rw[hsz] at hi
  rcases Nat.eq_zero_or_pos len with rfl|hpos
  ·have:elems=[]:=List.length_eq_zero_iff.1 hel
   subst this
   exact⟨[],.one (by simp only[aB];exact⟨some a,cap,rfl,Nat.zero_le _,hcm,.inl rfl⟩) rfl,by simp[hc],by simp[Rows.uptoBulk]⟩
  ·have h0:=hi 0 hpos
   obtain⟨y0,hy0⟩:∃ y,elems[0]? =some y:=⟨elems[0],by simp[hel,hpos]⟩
   rw[hy0,Option.bind_eq_some_iff] at h0
   obtain⟨cs0,hc0,_⟩:=h0
   have hs:a.spot=none:=by
    have:=(sg hn hc0).1
    simpa [Addr.add] using this
   obtain⟨dQ,off,s⟩:=a
   cases hs
   obtain⟨l,vs,h1,h2,h3,h4,h5,h6⟩:=sK hsz hn hb (he m rfl) len dQ off elems hel (fun i hi'=>by
    have:=hi i hi'
    rwa[Addr.add_mid] at this)
   refine⟨l,.one ?_ rfl,by simp[hc],by simp only[Rows.uptoBulk];omega⟩
   simp only[aB]
   refine⟨some ⟨dQ,off,none⟩,cap,by simp[h1],by simpa [h1] using hlc,hcm,.inr ⟨dQ,off,vs,rfl,h2,h3,h4,?_⟩⟩
   rcases h5 with h5|h5
   ·omega
   ·exact FF h5
theorem Fc {α:Type}:∀ {xs:List α},xs.length=2→∃ z0 z1,xs=[z0,z1]
 |[z0,z1],_=>⟨z0,z1,rfl⟩
theorem Jg {α:Type}:∀ {xs:List α},xs.length=5→∃ z0 z1 z2 z3 z4,xs=[z0,z1,z2,z3,z4]
 |[z0,z1,z2,z3,z4],_=>⟨z0,z1,z2,z3,z4,rfl⟩
theorem GC {α:Type}:∀ {xs:List α},xs.length=8→∃ z0 z1 z2 z3 z4 z5 z6 z7,xs=[z0,z1,z2,z3,z4,z5,z6,z7]
 |[z0,z1,z2,z3,z4,z5,z6,z7],_=>⟨z0,z1,z2,z3,z4,z5,z6,z7,rfl⟩
theorem b8 {cs:List Value} {xs:List (DataW H×List MemPlace)} {fs:Array Field} {n:Nat}
 (hf:∀ (i:Nat) (f:Field),fs[i]? =some f→DataW.trod enc P W 0 sp true n f.type ((cs.drop f.offset).take (P.cellsOf f.type))=xs[i]?) (i:Nat) {t:Nat} (o k:Nat)
 (h:(fs[i]?).map (fun f=>(f.type,f.offset))=some (t,o)) (hk:P.cellsOf t=k) {α:Type} {g:α→List SV} {wt:α→Nat} (hr:Rd enc P W sp n t g wt) (hl:i<xs.length):
 ∃ (y:DataW H×List MemPlace) (a:α),xs[i]? =some y∧Good W (g a) ((cs.drop o).take k)∧wt a≤Rows.uptoBulk y.1:=by
 cases hi:fs[i]? with
 |none=>rw[hi] at h;cases h
 |some f=>
  rw[hi] at h
  simp only[Option.map_some,Option.some.injEq,Prod.mk.injEq] at h
  obtain⟨rfl,rfl⟩:=h
  subst hk
  have hy:xs[i]? =some xs[i]:=by simp[hl]
  obtain⟨a,h1,_,h2⟩:=hr _ _ ((hf i f hi).trans hy)
  exact⟨_,a,hy,h1,h2⟩
end
theorem Kl {α:Type} (f:List α→Nat) (g:α→Nat) (h0:f []=0) (h1:∀ x l,f (x::l)=g x+f l):∀ l,f l=(l.map g).sum
 |[]=>by simp[h0]
 |x::l=>by rw[h1,Kl f g h0 h1 l];simp
theorem Ed (l:List aD):gw l=(l.map fun s=>s.length+1).sum:=Kl gw _ (by simp[gw]) (fun x l=>by simp only[gw];omega) l
theorem Grow.below {W W':World} {c':Cx} (h:Grow (vt W) c') (e:c'.w=W'):Below W.heap.size W W':=by
 subst e
 exact⟨h.os,h.tape,h.output,h.size,fun k hk=>h.Fz k hk (FF hk).2⟩
section
variable {H:Type} {enc:TypeId×Value→H} {P:Program} {W W':World}
theorem oS (hl:laidOutB P=true) (hb:Below W.heap.size W W') {sp:Nat→Bool}:∀ {ts:List TypeId} {vs:List Value} {ds:List (DataW H)} {ps:List MemPlace},
 (∀ t∈ts,P.readableRec t=true∧t<P.types.size)→DataW.TrodAll enc P W 0 (fun _=>true) true ts vs ds ps→(∀ p∈ps,p.block<W.heap.size)→(∀ p∈ps,sp p.block=true)→
 DataW.TrodAll enc P W' 0 sp true ts vs ds ps
 |[],vs,ds,ps,_,h,_,_=>by
  obtain⟨rfl,rfl,rfl⟩:=trodAll_nil h
  exact trodAll_mk0
 |t::ts,vs,ds,ps,hr,h,hlt,hs=>by
  obtain⟨v,vs',d,ds',p,q,rfl,rfl,rfl,h1,h2⟩:=trodAll_cons h
  refine trodAll_cons_mk (WideElems.Trod_stays hl (hr t (by simp)).1 (hr t (by simp)).2 h1 (fun x hx=>hb.same (hlt x (by simp[hx]))) (fun x hx=>hs x (by simp[hx]))) ?_
  exact oS hl hb (fun t ht=>hr t (by simp[ht])) h2 (fun x hx=>hlt x (by simp[hx])) (fun x hx=>hs x (by simp[hx]))
theorem qz (hl:laidOutB P=true) {f:Func} {s:ChangeSpec} (hsv:s.vars=[]) {args:Array Value} {ds gs:List (DataW H)} {before:List MemPlace}
 (hW:DataW.Whole enc P f.params.toList s.vars false W args.toList ds gs before) (hr:∀ t∈f.params.toList,P.readableRec t=true∧t<P.types.size)
 {tb:TypeId} (hrt:f.resultTypes= #[tb]) (htb:P.underlying tb=some .bool) (h1:(s.fn H (ds++gs)).results=[.lit (.bool true)]) (h2:(s.fn H (ds++gs)).args=ds) (h3:(s.fn H (ds++gs)).vars=[])
 (hb:Below W.heap.size W W'):s.post enc P f false true false false W args (.bool true) W':=by
 have hW0:=hW
 obtain⟨p,q,hA,hV,rfl,_,_⟩:=hW
 rw[hsv] at hV
 obtain⟨rfl,rfl⟩:=trodVars_none hV
 have hlt:∀ x∈p,x.block<W.heap.size:=fun x hx=>hW0.lt x (by simp[hx])
 refine⟨ds,[],p++[],[],p,[],hW0,?_,?_,?_,?_,fun h=>by cases h⟩
 ·rw[hrt,h1]
  exact trodAll_cons_mk (p':=[]) (shut_bool htb true) trodAll_mk0
 ·rw[h2]
  exact oS hl hb hr hA hlt (fun x hx=>by simpa using hlt x hx)
 ·rw[hsv,h3];rfl
 ·exact World.keptBut_mono (fun x hx=>⟨hx,.inr (.inl (by simpa using hx))⟩) (hb.frame (· ∈p++[]))
end
end
section
open Go Go.ChangeShapes Go.WideShapes Go.RowKit
mutual
def Ex.bw:Ex→Nat
 | .mk _ s _ _ l ae binds alts=>1+s.length+gw l+w9 ae+oG binds+wJ alts
def w9:List Ex→Nat
 |[]=>0
 |e::r=>e.bw+w9 r
def Bd.bw:Bd→Nat
 | .mk s e=>1+s.length+e.bw
def oG:List Bd→Nat
 |[]=>0
 |b::r=>b.bw+oG r
def Al.bw:Al→Nat
 | .mk _ s _ l e=>1+s.length+gw l+e.bw
def wJ:List Al→Nat
 |[]=>0
 |a::r=>a.bw+wJ r
end
theorem ru:∀ l:List Ex,w9 l=(l.map Ex.bw).sum
 |[]=>rfl
 |x::l=>by simp only[w9,List.map_cons,List.sum_cons,ru l]
theorem kE:∀ l:List Bd,oG l=(l.map Bd.bw).sum
 |[]=>rfl
 |x::l=>by simp only[oG,List.map_cons,List.sum_cons,kE l]
theorem rf:∀ l:List Al,wJ l=(l.map Al.bw).sum
 |[]=>rfl
 |x::l=>by simp only[wJ,List.map_cons,List.sum_cons,rf l]
mutual
theorem KM:∀ e:Ex,e.wt≤e.bw
 | .mk k s n o l ae binds alts=>by
  have h1:=KO ae
  have h2:=v8 binds
  have h3:=KN alts
  have h4:=eD l
  simp only[Ex.wt,Ex.bw] at*
  omega
theorem KO:∀ l:List Ex,cn l≤w9 l
 |[]=>Nat.le_refl _
 |e::r=>by
  have h1:=KM e
  have h2:=KO r
  simp only[cn,w9] at*
  omega
theorem v8:∀ l:List Bd,aV l≤oG l
 |[]=>Nat.le_refl _
 | .mk t e::r=>by
  have h1:=KM e
  have h2:=v8 r
  simp only[aV,Bd.wt,oG,Bd.bw] at*
  omega
theorem KN:∀ l:List Al,cf l≤wJ l
 |[]=>Nat.le_refl _
 | .mk k s n l e::r=>by
  have h1:=KM e
  have h2:=KN r
  have h4:=eD l
  simp only[cf,Al.wt,wJ,Al.bw] at*
  omega
end
section
variable {H:Type} {enc:TypeId×Value→H} {W:World} {sp:Nat→Bool}
theorem nf (n:Nat):Rd enc Tryz.prog W sp n 9 (fun s:aD=>[.str s]) (fun s=>s.length+1):=OM (by kernel_rfl) (by kernel_rfl)
theorem fN (n:Nat):Rd enc Tryz.prog W sp n 3 (fun i:Int=>[.int .i64 i]) (fun _=>1):=OL (by kernel_rfl) (by kernel_rfl)
theorem xZ (n:Nat):Rd enc Tryz.prog W sp n 38 (fun l:List aD=>[.list 1 (l.map .str)]) (fun l=>1+gw l):=by
 have h:=jx (enc:=enc) (P:=Tryz.prog) (W:=W) (sp:=sp) (t:=38) (e:=9) false (f:=fun s:aD=>[SV.str s]) (wt:=fun s=>s.length+1) (n:=1) (N:=n) (by kernel_rfl) (by kernel_rfl) (by kernel_rfl) (by omega) (.inr rfl) (fun m _=>nf m)
 intro cs x hx
 obtain⟨a,h1,h2,h3⟩:=h cs x hx
 exact⟨a,h1,h2,by show 1+gw a≤_;rw[Ed];exact h3⟩
theorem Iu (k:Int) (s:aD) (n o:Int) (l:List aD) (ae:List Ex) (binds:List Bd) (alts:List Al):
 (Ex.mk k s n o l ae binds alts).cells=[.int .i64 k]++([.str s]++([.int .i64 n]++([.int .i64 o]++([.list 1 (l.map .str)]++([.list 8 (ae.map fun x=>bx true x.cells)]++([.list 9 (binds.map fun x=>bx true x.cells)]++([.list 12 (alts.map fun x=>bx true x.cells)]++[]))))))):=by
 simp only[Ex.cells,aL,az,bh];rfl
theorem MI (n:Nat):Rd enc Tryz.prog W sp n 47 Ex.cells Ex.bw∧Rd enc Tryz.prog W sp n 53 Bd.cells Bd.bw∧Rd enc Tryz.prog W sp n 60 Al.cells Al.bw:=by
 induction n using Nat.strongRecOn with
 |_ n ih=>
 have hE:Rd enc Tryz.prog W sp n 47 Ex.cells Ex.bw:=by
  intro cs x hx
  obtain⟨xs,m,rfl,rfl,hl,hlen,hf⟩:=DataW.trod_struct Tryz.underlying47 hx
  obtain⟨z0,z1,z2,z3,z4,z5,z6,z7,rfl⟩:=GC (show xs.length=8 from hlen)
  have hsz:Tryz.prog.cellsOf 47=8:=by kernel_rfl
  have hsubs:∀ m',m=m'+1→Rd enc Tryz.prog W sp m' 47 Ex.cells Ex.bw:=fun m' e=>(ih m' (by omega)).1
  have hbinds:∀ m',m=m'+1→Rd enc Tryz.prog W sp m' 53 Bd.cells Bd.bw:=fun m' e=>(ih m' (by omega)).2.1
  have halts:∀ m',m=m'+1→Rd enc Tryz.prog W sp m' 60 Al.cells Al.bw:=fun m' e=>(ih m' (by omega)).2.2
  obtain⟨y0,k,e0,g0,w0⟩:=b8 hf 0 0 1 (by kernel_rfl) (by kernel_rfl) (fN m) (by simp)
  obtain⟨y1,s,e1,g1,w1⟩:=b8 hf 1 1 1 (by kernel_rfl) (by kernel_rfl) (nf m) (by simp)
  obtain⟨y2,i,e2,g2,w2⟩:=b8 hf 2 2 1 (by kernel_rfl) (by kernel_rfl) (fN m) (by simp)
  obtain⟨y3,o,e3,g3,w3⟩:=b8 hf 3 3 1 (by kernel_rfl) (by kernel_rfl) (fN m) (by simp)
  obtain⟨y4,l,e4,g4,w4⟩:=b8 hf 4 4 1 (by kernel_rfl) (by kernel_rfl) (xZ m) (by simp)
  obtain⟨y5,ae,e5,g5,w5⟩:=b8 hf 5 5 1 (by kernel_rfl) (by kernel_rfl) (jx (t:=44) (e:=47) true (by kernel_rfl) (by kernel_rfl) (n:=8) (by kernel_rfl) (by omega) (.inl rfl) hsubs) (by simp)
  obtain⟨y6,binds,e6,g6,w6⟩:=b8 hf 6 6 1 (by kernel_rfl) (by kernel_rfl) (jx (t:=23) (e:=53) true (by kernel_rfl) (by kernel_rfl) (n:=9) (by kernel_rfl) (by omega) (.inl rfl) hbinds) (by simp)
  obtain⟨y7,alts,e7,g7,w7⟩:=b8 hf 7 7 1 (by kernel_rfl) (by kernel_rfl) (jx (t:=45) (e:=60) true (by kernel_rfl) (by kernel_rfl) (n:=12) (by kernel_rfl) (by omega) (.inl rfl) halts) (by simp)
  rw[hsz] at hl
  refine⟨.mk k s i o l ae binds alts,?_,by rw[hsz,hl],?_⟩
  ·rw[Iu,← List.drop_zero (l:=cs)]
   refine .cut g0 (.cut g1 (.cut g2 (.cut g3 (.cut g4 (.cut g5 (.cut g6 (.cut g7 ?_)))))))
   rw[List.drop_eq_nil_of_le (by omega)]
   exact .nil
  ·cases e0;cases e1;cases e2;cases e3;cases e4;cases e5;cases e6;cases e7
   simp only[Rows.uptoBulk,Rows.uptoBulkAll,List.map_cons,List.map_nil,Ex.bw,ru,kE,rf]
   omega
 have hE':∀ m,n=m+1→Rd enc Tryz.prog W sp m 47 Ex.cells Ex.bw:=fun m e=>(ih m (by omega)).1
 refine⟨hE,?_,?_⟩
 ·intro cs x hx
  obtain⟨xs,m,hm,rfl,hl,hlen,hf⟩:=DataW.trod_struct Tryz.underlying53 hx
  obtain⟨z0,z1,rfl⟩:=Fc (show xs.length=2 from hlen)
  have hsz:Tryz.prog.cellsOf 53=9:=by kernel_rfl
  obtain⟨y0,s,e0,g0,w0⟩:=b8 hf 0 0 1 (by kernel_rfl) (by kernel_rfl) (nf m) (by simp)
  obtain⟨y1,e,e1,g1,w1⟩:=b8 hf 1 1 8 (by kernel_rfl) (by kernel_rfl) (hE' m hm) (by simp)
  rw[hsz] at hl
  refine⟨.mk s e,?_,by rw[hsz,hl],?_⟩
  ·have:(Bd.mk s e).cells=[.str s]++(e.cells++[]):=by simp[Bd.cells]
   rw[this,← List.drop_zero (l:=cs)]
   refine .cut g0 (.cut g1 ?_)
   rw[List.drop_eq_nil_of_le (by omega)]
   exact .nil
  ·cases e0;cases e1
   simp only[Rows.uptoBulk,Rows.uptoBulkAll,List.map_cons,List.map_nil,Bd.bw]
   omega
 ·intro cs x hx
  obtain⟨xs,m,hm,rfl,hl,hlen,hf⟩:=DataW.trod_struct Tryz.underlying60 hx
  obtain⟨z0,z1,z2,z3,z4,rfl⟩:=Jg (show xs.length=5 from hlen)
  have hsz:Tryz.prog.cellsOf 60=12:=by kernel_rfl
  obtain⟨y0,k,e0,g0,w0⟩:=b8 hf 0 0 1 (by kernel_rfl) (by kernel_rfl) (fN m) (by simp)
  obtain⟨y1,s,e1,g1,w1⟩:=b8 hf 1 1 1 (by kernel_rfl) (by kernel_rfl) (nf m) (by simp)
  obtain⟨y2,i,e2,g2,w2⟩:=b8 hf 2 2 1 (by kernel_rfl) (by kernel_rfl) (fN m) (by simp)
  obtain⟨y3,l,e3,g3,w3⟩:=b8 hf 3 3 1 (by kernel_rfl) (by kernel_rfl) (xZ m) (by simp)
  obtain⟨y4,e,e4,g4,w4⟩:=b8 hf 4 4 8 (by kernel_rfl) (by kernel_rfl) (hE' m hm) (by simp)
  rw[hsz] at hl
  refine⟨.mk k s i l e,?_,by rw[hsz,hl],?_⟩
  ·have:(Al.mk k s i l e).cells=[.int .i64 k]++([.str s]++([.int .i64 i]++([.list 1 (l.map .str)]++(e.cells++[])))):=by simp[Al.cells]
   rw[this,← List.drop_zero (l:=cs)]
   refine .cut g0 (.cut g1 (.cut g2 (.cut g3 (.cut g4 ?_))))
   rw[List.drop_eq_nil_of_le (by omega)]
   exact .nil
  ·cases e0;cases e1;cases e2;cases e3;cases e4
   simp only[Rows.uptoBulk,Rows.uptoBulkAll,List.map_cons,List.map_nil,Al.bw]
   omega
end
end
section
section
variable {P:Program} {G:Gl} {T:bX} {own:List Nat} {nt B:Nat} {ρ:Option Nat} {C:Cx} {rs:List ResultVar} {R:SV→List av→Prop} {env env2:Env} {H H':List av} {k:List It}
variable {all r:List Oper} {ty d j dj:Nat} {op:Op} {pos:String} {after:Array Edge} {v:SV}
theorem cg.length {c:Cx}:∀ {es:List (SV×SV)} {l:List MapEntry},cg c es l→l.length=es.length
 |[],l,h=>by simp only[cg] at h;subst h;rfl
 |(q,x)::es,l,h=>by
  simp only[cg] at h
  obtain⟨e,es',_,_,h3,rfl⟩:=h
  simp[cg.length h3]
structure Ev (G:Gl) (id bm:Nat) (kd:Option IntKind):Prop where
 there:∃ C',G.base=some C'∧(∃ es0,C'.H[id]? =some (.map kd es0))∧C'.θ id=some (bm,0)
theorem Ev.of {C':Cx} (hc:aM C') {l:List (Nat×SV)} {id:Nat} {kd:Option IntKind} {es:List (SV×SV)} (h:C'.H[id]? =some (.map kd es)):∃ bm,Ev ⟨l,some C'⟩ id bm kd:=by
 obtain⟨b,ents,clk,h1,_⟩:=hc.dQ id _ h
 exact⟨b,⟨C',rfl,⟨es,h⟩,h1⟩⟩
end
end
section
section
variable {P:Program} {G:Gl} {T:bX} {own:List Nat} {nt B:Nat} {ρ:Option Nat} {C:Cx} {rs:List ResultVar} {R:SV→List av→Prop} {env env2:Env} {H H2:List av} {k:List It}
theorem rB {all l:List Oper} (env2:Env) (H2:List av) (hw:Wk G nt C ⟨env,H⟩ ⟨env2,H2⟩) (h:(Out P G T own nt ρ C rs R) (.ops all l::k) .normal env2 H2):(Out P G T own nt ρ C rs R) (.ops all l::k) .normal env H:=by
 intro hT i c a hf hc hi hg
 obtain⟨c',e1,e2,e3,e4⟩:=hw c a hc hi hg
 have:=h hT i c' a hf e1 e3 e4
 rw[e2] at this
 exact this
theorem ke {x:Code} (env2:Env) (H2:List av) (hw:Wk G nt C ⟨env,H⟩ ⟨env2,H2⟩) (h:(Out P G T own nt ρ C rs R) (.code x::k) .normal env2 H2):(Out P G T own nt ρ C rs R) (.code x::k) .normal env H:=by
 intro c a hc hi hg
 obtain⟨c',e1,e2,e3,e4⟩:=hw c a hc hi hg
 have:=h c' a e1 e3 e4
 rw[e2] at this
 exact this
theorem Wk.trans {s s2 s3:St} (h1:Wk G nt C s s2) (h2:Wk G nt C s2 s3):Wk G nt C s s3:=by
 intro c a hc hi hg
 obtain⟨c',e1,e2,e3,e4⟩:=h1 c a hc hi hg
 obtain⟨c'',f1,f2,f3,f4⟩:=h2 c' a e1 e3 e4
 exact⟨c'',f1,f2.trans e2,f3,f4⟩
theorem CU {id g s i j:Nat} {vals fs:List SV} (sz:Nat) (hb:H[id]? =some (.cells g s vals)) (hk:vals[i]? =some (.agg fs)) (hj:fs[j]? =some .nil):
 Wk G nt C ⟨env,H⟩ ⟨env,H.set id (.cells g s (vals.set i (.agg (fs.set j (.sl H.length 0 0 0)))))++[.cells 0 sz []]⟩:=by
 intro c a hc hi hg
 have hc:c.H=H:=hc
 subst hc
 have hid:id<c.H.length:=(List.getElem?_eq_some_iff.1 hb).1
 obtain⟨g1,g2⟩:=Cx.fresh hi.heap (w':=c.w) c.w.heap.size (Nat.le_refl _) 0 none (.inl rfl) (.cells 0 sz []) (fun _ _=>rfl) (Nat.le_refl _) rfl rfl rfl (fun _=> .inl ⟨by simp,rfl⟩)
 generalize hc1:(⟨fun i=>if i=c.H.length then none else c.θ i,c.H++[.cells 0 sz []],c.w⟩:Cx)=c1 at g1 g2
 have hH:c1.H=c.H++[.cells 0 sz []]:=by rw[← hc1]
 have hw:c1.w=c.w:=by rw[← hc1]
 have hb1:c1.H[id]? =some (.cells g s vals):=by rw[hH,List.getElem?_append_left hid];exact hb
 obtain⟨t1,t2⟩:=Cx.oB g2 (w':=c1.w) hb1 rfl (B':= .cells g s (vals.set i (.agg (fs.set j (.sl c.H.length 0 0 0))))) (c1.θ id)
  ⟨g,_,rfl,Nat.le_refl _,fun _=>⟨rfl,by simp⟩,fun b' o' h'=> .inr ⟨o',h'⟩⟩ (fun _ _ _=>rfl) (Nat.le_refl _) rfl rfl rfl (fun b cs T fr h=>⟨cs,fr,h,rfl⟩)
  (fun hg=>by
   rcases g2.dQ id _ hb1 with⟨h2,h3⟩|⟨b,o,cs,Ty,fr,vs,h2,h3,h4,h5,h6,h7⟩
   ·rw[h3] at hk;simp at hk
   ·refine .inr ⟨b,o,cs,Ty,fr,vs,by simp[h2],h3,h4,?_,h6,h7⟩
    obtain⟨u,u1,u2⟩:=h5.get hk
    have u0:=u2
    simp only[aB] at u2
    obtain⟨ws,w1,w2,w3⟩:=u2
    obtain⟨z,z1,z2⟩:=w1.get hj
    simp only[aB] at z2
    have h8:=h5.grow hg
    have h9:=w1.grow hg
    refine dM u1 ▸ h8.set i (u:=u) ?_
    simp only[aB]
    refine⟨ws,?_,w2,w3⟩
    refine dM z1 ▸ h9.set j (u:=z) ?_
    simp only[aB]
    have hne:¬ c.H.length=id:=by omega
    refine⟨by rw[z2];rfl,?_⟩
    have hn:(c1.H.set id (.cells g s (vals.set i (.agg (fs.set j (.sl c.H.length 0 0 0))))))[c.H.length]? =some (.cells 0 sz []):=by
     rw[List.getElem?_set_ne (fun e=>hne e.symm),hH];simp
    rw[hn]
    exact .inr ⟨rfl,Nat.le_refl _,none,0,z2,Nat.le_refl _,Nat.zero_le _,.inl ⟨rfl,.inr (Nat.le_refl _)⟩⟩)
 refine⟨{ θ:=fun i=>if i=id then c1.θ id else c1.θ i,H:=c1.H.set id (.cells g s (vals.set i (.agg (fs.set j (.sl c.H.length 0 0 0))))),w:=c1.w},?_,hw,⟨t2,hi.gG.grow (g1.trans t1),hi.size,fun t' x hx=>(hi.env t' x hx).grow (g1.trans t1),hi.defs.grow (g1.trans t1)⟩,(hg.trans g1).trans t1⟩
 show c1.H.set id _=_
 rw[hH,List.set_append_left _ _ hid]
theorem Hl {id g s i:Nat} {vals:List SV} (sz:Nat) (hb:H[id]? =some (.cells g s vals)) (hk:vals[i]? =some .nil):
 Wk G nt C ⟨env,H⟩ ⟨env,H.set id (.cells g s (vals.set i (.sl H.length 0 0 0)))++[.cells 0 sz []]⟩:=by
 intro c a hc hi hg
 have hc:c.H=H:=hc
 subst hc
 have hid:id<c.H.length:=(List.getElem?_eq_some_iff.1 hb).1
 obtain⟨g1,g2⟩:=Cx.fresh hi.heap (w':=c.w) c.w.heap.size (Nat.le_refl _) 0 none (.inl rfl) (.cells 0 sz []) (fun _ _=>rfl) (Nat.le_refl _) rfl rfl rfl (fun _=> .inl ⟨by simp,rfl⟩)
 generalize hc1:(⟨fun i=>if i=c.H.length then none else c.θ i,c.H++[.cells 0 sz []],c.w⟩:Cx)=c1 at g1 g2
 have hH:c1.H=c.H++[.cells 0 sz []]:=by rw[← hc1]
 have hw:c1.w=c.w:=by rw[← hc1]
 have hb1:c1.H[id]? =some (.cells g s vals):=by rw[hH,List.getElem?_append_left hid];exact hb
 obtain⟨t1,t2⟩:=Cx.oB g2 (w':=c1.w) hb1 rfl (B':= .cells g s (vals.set i (.sl c.H.length 0 0 0))) (c1.θ id)
  ⟨g,_,rfl,Nat.le_refl _,fun _=>⟨rfl,by simp⟩,fun b' o' h'=> .inr ⟨o',h'⟩⟩ (fun _ _ _=>rfl) (Nat.le_refl _) rfl rfl rfl (fun b cs T fr h=>⟨cs,fr,h,rfl⟩)
  (fun hg=>by
   rcases g2.dQ id _ hb1 with⟨h2,h3⟩|⟨b,o,cs,Ty,fr,vs,h2,h3,h4,h5,h6,h7⟩
   ·rw[h3] at hk;simp at hk
   ·refine .inr ⟨b,o,cs,Ty,fr,vs,by simp[h2],h3,h4,?_,h6,h7⟩
    obtain⟨u,u1,u2⟩:=h5.get hk
    simp only[aB] at u2
    have h8:=h5.grow hg
    refine dM u1 ▸ h8.set i (u:=u) ?_
    simp only[aB]
    have hne:¬ c.H.length=id:=by omega
    refine⟨by rw[u2];rfl,?_⟩
    have hn:(c1.H.set id (.cells g s (vals.set i (.sl c.H.length 0 0 0))))[c.H.length]? =some (.cells 0 sz []):=by
     rw[List.getElem?_set_ne (fun e=>hne e.symm),hH];simp
    rw[hn]
    exact .inr ⟨rfl,Nat.le_refl _,none,0,u2,Nat.le_refl _,Nat.zero_le _,.inl ⟨rfl,.inr (Nat.le_refl _)⟩⟩)
 refine⟨{ θ:=fun i=>if i=id then c1.θ id else c1.θ i,H:=c1.H.set id (.cells g s (vals.set i (.sl c.H.length 0 0 0))),w:=c1.w},?_,hw,⟨t2,hi.gG.grow (g1.trans t1),hi.size,fun t' x hx=>(hi.env t' x hx).grow (g1.trans t1),hi.defs.grow (g1.trans t1)⟩,(hg.trans g1).trans t1⟩
 show c1.H.set id _=_
 rw[hH,List.set_append_left _ _ hid]
end
end
section
mutual
def SV.same:SV→SV→Bool
 | .undef,y=>(match y with| .undef=>true|_=>false)
 | .bool a,y=>(match y with| .bool b=>a==b|_=>false)
 | .int k n,y=>(match y with| .int k' n'=>decide (k=k')&&decide (n=n')|_=>false)
 | .str s,y=>(match y with| .str t=>decide (s=t)|_=>false)
 | .agg xs,y=>(match y with| .agg ys=>SV.oQ xs ys|_=>false)
 | .nil,y=>(match y with| .nil=>true|_=>false)
 | .list a xs,y=>(match y with| .list b ys=>Nat.beq a b&&SV.oQ xs ys|_=>false)
 | .ptr a b c d,y=>(match y with| .ptr a' b' c' d'=>Nat.beq a a'&&Nat.beq b b'&&Nat.beq c c'&&Nat.beq d d'|_=>false)
 | .sl a b c d,y=>(match y with| .sl a' b' c' d'=>Nat.beq a a'&&Nat.beq b b'&&Nat.beq c c'&&Nat.beq d d'|_=>false)
 | .map a,y=>(match y with| .map b=>Nat.beq a b|_=>false)
 | .b9,y=>(match y with| .b9=>true|_=>false)
 | .bt,y=>(match y with| .bt=>true|_=>false)
 | .cZ,y=>(match y with| .cZ=>true|_=>false)
 | .oI a,y=>(match y with| .oI b=>a==b|_=>false)
 | .tuple xs,y=>(match y with| .tuple ys=>SV.oQ xs ys|_=>false)
 | .gM x,y=>(match y with| .gM z=>SV.same x z|_=>false)
 | .fn f xs ys,y=>(match f,y with| .func a,.fn (.func b) us vs=>Nat.beq a b&&SV.oQ xs us&&SV.oQ ys vs|_,_=>false)
 |_,_=>false
def SV.oQ:List SV→List SV→Bool
 |[],ys=>(match ys with|[]=>true|_=>false)
 |x::xs,ys=>(match ys with|y::ys=>SV.same x y&&SV.oQ xs ys|_=>false)
end
theorem SV.gO:(∀ x:SV,∀ y,SV.same x y=true→x=y)∧(∀ xs:List SV,∀ ys,SV.oQ xs ys=true→xs=ys):=by
 refine SV.both (fun x h1 h2 h3 h4 h5 h6 y h=>?_) (fun fs ih y h=>?_) (fun n xs ih y h=>?_) (fun x ih y h=>?_) (fun f a b ia ib y h=>?_) (fun xs ih y h=>?_) (fun b clk born kd ks vs i1 i2 y h=>?_) (fun ys h=>?_) (fun x xs ix ixs ys h=>?_)
 ·cases x<;>first|(exact(h1 _ rfl).elim)|(exact(h2 _ _ rfl).elim)|(exact(h3 _ rfl).elim)|(exact(h4 _ _ _ rfl).elim)|(exact(h5 _ rfl).elim)|(exact(h6 _ _ _ _ _ _ rfl).elim)|(cases y<;>simp_all [SV.same])
 ·cases y<;>simp only[SV.same] at h<;>first|(cases h;done)|(rw[ih _ h])
 ·cases y<;>simp only[SV.same,Bool.and_eq_true] at h<;>first|(cases h;done)|(obtain⟨h1,h2⟩:=h;rw[ih _ h2,Nat.eq_of_beq_eq_true h1])
 ·cases y<;>simp only[SV.same] at h<;>first|(cases h;done)|(rw[ih _ h])
 ·simp only[SV.same] at h
  split at h
  ·simp only[Bool.and_eq_true] at h
   obtain⟨⟨h1,h2⟩,h3⟩:=h
   rw[Nat.eq_of_beq_eq_true h1,ia _ h2,ib _ h3]
  ·cases h
 ·cases y<;>simp only[SV.same] at h<;>first|(cases h;done)|(rw[ih _ h])
 ·simp[SV.same] at h
 ·cases ys with
  |nil=>rfl
  |cons=>simp[SV.oQ] at h
 ·cases ys with
  |nil=>simp[SV.oQ] at h
  |cons y ys=>simp only[SV.oQ,Bool.and_eq_true] at h;rw[ix _ h.1,ixs _ h.2]
def tu:Option SV→Option SV→Bool
 |some a,some b=>SV.same a b
 |none,none=>true
 |_,_=>false
theorem vl {a b:Option SV} (h:tu a b=true):a=b:=by
 cases a<;>cases b<;>simp only[tu] at h<;>first|rfl|(cases h;done)|(rw[SV.gO.1 _ _ h])
def x8:List (SV×SV)→List (SV×SV)→Bool
 |[],ys=>(match ys with|[]=>true|_=>false)
 |(a,b)::xs,ys=>(match ys with|(c,d)::ys=>SV.same a c&&SV.same b d&&x8 xs ys|_=>false)
theorem CE:∀ {xs ys:List (SV×SV)},x8 xs ys=true→xs=ys
 |[],ys,h=>by cases ys with
  |nil=>rfl
  |cons=>simp[x8] at h
 |(a,b)::xs,ys,h=>by cases ys with
  |nil=>simp[x8] at h
  |cons y ys=>
   obtain⟨c,d⟩:=y
   simp only[x8,Bool.and_eq_true] at h
   rw[SV.gO.1 _ _ h.1.1,SV.gO.1 _ _ h.1.2,CE h.2]
def qQ:List SV→Nat→List SV→Bool
 |[],_,ys=>(match ys with|[]=>true|_=>false)
 |x::xs,c,ys=>(match ys with
  |[]=>false
  |y::ys=>(match c with
   |0=>bif (bif qQ xs 255 ys then true else false) then SV.same x y else false
   |c+1=>bif SV.same x y then qQ xs c ys else false))
theorem vB:∀ {xs:List SV} {c:Nat} {ys:List SV},qQ xs c ys=true→xs=ys
 |[],c,ys,h=>by
  cases ys with
  |nil=>rfl
  |cons=>simp[qQ] at h
 |x::xs,c,ys,h=>by
  cases ys with
  |nil=>simp[qQ] at h
  |cons y ys=>
   cases c with
   |zero=>
    simp only[qQ] at h
    cases h1:qQ xs 255 ys with
    |false=>rw[h1] at h;cases h
    |true=>rw[h1] at h;rw[vB h1,SV.gO.1 _ _ h]
   |succ c=>
    simp only[qQ] at h
    cases h1:SV.same x y with
    |false=>rw[h1] at h;cases h
    |true=>rw[h1,cond_true] at h;rw[vB h,SV.gO.1 _ _ h1]
def SV.ER:SV→Bool
 | .bool _=>true
 | .int _ _=>true
 | .str _=>true
 |_=>false
def SV.Bv:SV→Bool
 | .agg xs=>xs.all SV.ER
 |x=>SV.ER x
theorem SV.sw {n:Nat} {x:SV} (h:x.ER=true):x.under n=true:=by
 cases x<;>first|rfl|(cases h;done)
theorem SV.pU {n:Nat}:∀ {xs:List SV},xs.all SV.ER=true→SV.aj n xs=true
 |[],_=>rfl
 |x::xs,h=>by
  simp only[List.all_cons,Bool.and_eq_true] at h
  simp only[SV.aj,SV.sw h.1,SV.pU h.2,Bool.and_self]
theorem SV.sx {n:Nat} {x:SV} (h:x.Bv=true):x.under n=true:=by
 cases x<;>first|exact SV.sw h|(simp only[SV.under];exact SV.pU h)
def uA:List SV→Nat→Bool
 |[],_=>true
 |x::xs,c=>(match c with
  |0=>bif (bif uA xs 255 then true else false) then x.Bv else false
  |c+1=>bif x.Bv then uA xs c else false)
theorem mF {n:Nat}:∀ {xs:List SV} {c:Nat},uA xs c=true→SV.aj n xs=true
 |[],c,_=>rfl
 |x::xs,c,h=>by
  cases c with
  |zero=>
   simp only[uA] at h
   cases h1:uA xs 255 with
   |false=>rw[h1] at h;cases h
   |true=>
    rw[h1] at h
    simp only[SV.aj,SV.sx (show x.Bv=true from h),mF h1,Bool.and_self]
  |succ c=>
   simp only[uA] at h
   cases h1:x.Bv with
   |false=>rw[h1] at h;cases h
   |true=>
    rw[h1,cond_true] at h
    simp only[SV.aj,SV.sx h1,mF h,Bool.and_self]
def av.same:av→av→Bool
 | .cells g sz xs,y=>(match y with| .cells g' sz' ys=>Nat.beq g g'&&Nat.beq sz sz'&&qQ xs 255 ys|_=>false)
 | .map kd es,y=>(match y with| .map kd' es'=>decide (kd=kd')&&x8 es es'|_=>false)
 | .dead,y=>(match y with| .dead=>true|_=>false)
 |_,_=>false
theorem av.MM {a b:av} (h:av.same a b=true):a=b:=by
 cases a with
 |cells g sz xs=>cases b with
  |cells g' sz' ys=>
   simp only[av.same,Bool.and_eq_true] at h
   rw[Nat.eq_of_beq_eq_true h.1.1,Nat.eq_of_beq_eq_true h.1.2,vB h.2]
  |_=>simp[av.same] at h
 |map kd es=>cases b with
  |map kd' es'=>
   simp only[av.same,Bool.and_eq_true,decide_eq_true_eq] at h
   rw[h.1,CE h.2]
  |_=>simp[av.same] at h
 |obj o=>simp[av.same] at h
 |dead=>cases b with
  |dead=>rfl
  |_=>simp[av.same] at h
def qR:List av→List av→Bool
 |[],ys=>(match ys with|[]=>true|_=>false)
 |x::xs,ys=>(match ys with|y::ys=>av.same x y&&qR xs ys|_=>false)
theorem vD:∀ {xs ys:List av},qR xs ys=true→xs=ys
 |[],ys,h=>by cases ys with
  |nil=>rfl
  |cons=>simp[qR] at h
 |x::xs,ys,h=>by cases ys with
  |nil=>simp[qR] at h
  |cons y ys=>
   simp only[qR,Bool.and_eq_true] at h
   rw[av.MM h.1,vD h.2]
abbrev RC:=FuncId→List SV→List av→Option (SV×List av)
def yA (P:Program) (G:Gl) (call:RC):Prop:=∀ f xs H x H',call f xs H=some (x,H')→aq P G f xs H (fun r H2=>H2=H'∧r=x)
def Ox (G:Gl) (T:bX) (env:Env) (H:List av):Op→Option SV
 | .binOp .eql t x y _=>ob (ev G env x) fun X=>ob (ev G env y) fun Y=>match Y with
  | .nil=>dO (fM T t=2) (ob (qT H X) fun n=>bif Nat.beq n 0 then none else some (.bool false))
  |_=>none
 | .binOp .neq t x y _=>ob (ev G env x) fun X=>ob (ev G env y) fun Y=>match Y with
  | .nil=>dO (fM T t=2) (ob (qT H X) fun n=>bif Nat.beq n 0 then none else some (.bool true))
  |_=>none
 |_=>none
def oJ:Env→Nat→Option SV
 |[],_=>none
 |(k,v)::r,t=>bif Nat.beq t k then some v else oJ r t
theorem gm:∀ (env:Env) (t:Nat),oJ env t=look env t
 |[],_=>rfl
 |(k,v)::r,t=>by
  unfold oJ look
  cases h:Nat.beq t k with
  |true=>rw[cond_true,if_pos (Nat.eq_of_beq_eq_true h)]
  |false=>
   rw[cond_false,if_neg (fun e=>by rw[e,Nat.beq_refl] at h;cases h)]
   exact gm r t
def fE (env:Env):List Operand→Env
 |[]=>[]
 | .tmp t::r=>(match oJ env t with
  |some v=>(t,v)::fE env r
  |none=>fE env r)
 |_::r=>fE env r
theorem lR {env:Env} {t:Nat} {v:SV}:∀ {l:List Operand},look (fE env l) t=some v→look env t=some v
 |[],h=>by cases h
 |x::r,h=>by
  cases x with
  |tmp s=>
   unfold fE at h
   rw[gm] at h
   cases hs:look env s with
   |none=>rw[hs] at h;exact lR h
   |some u=>
    rw[hs] at h
    have h:(if t=s then some u else look (fE env r) t)=some v:=h
    by_cases e:t=s
    ·rw[if_pos e] at h;rw[e,hs];exact h
    ·rw[if_neg e] at h;exact lR h
  |_=>exact lR (l:=r) h
theorem j5 {env:Env} {t:Nat}:∀ {l:List Operand},Operand.tmp t∈l→look (fE env l) t=look env t
 |x::r,h=>by
  cases x with
  |tmp s=>
   unfold fE
   rw[gm]
   cases hs:look env s with
   |some u=>
    show(if t=s then some u else look (fE env r) t)=_
    by_cases e:t=s
    ·rw[if_pos e,e,hs]
    ·rw[if_neg e]
     rcases List.mem_cons.1 h with h|h
     ·cases h;exact(e rfl).elim
     ·exact j5 h
   |none=>
    show look (fE env r) t=_
    by_cases e:t=s
    ·rw[e,hs]
     cases hr:look (fE env r) s with
     |none=>rfl
     |some u=>rw[lR hr] at hs;cases hs
    ·rcases List.mem_cons.1 h with h|h
     ·cases h;exact(e rfl).elim
     ·exact j5 h
  |_=>
   rcases List.mem_cons.1 h with h|h
   ·cases h
   ·exact j5 (l:=r) h
theorem Ha {G:Gl} {env:Env} {l:List Operand} {x:Operand} (h:x∈l):ev G (fE env l) x=ev G env x:=by
 cases x with
 |tmp t=>exact j5 h
 |_=>rfl
def Fi (l:List SV) (n:Nat):Bool:=match n with
 |0=>true
 |n+1=>match l.drop n with
  |[]=>false
  |_::_=>true
theorem Jp {l:List SV} {n:Nat} (h:Fi l n=true):n≤l.length:=by
 cases n with
 |zero=>exact Nat.zero_le _
 |succ n=>
  rcases Nat.lt_or_ge n l.length with h2|h2
  ·exact h2
  ·have h3:(match l.drop n with
    |[]=>false
    |_::_=>true)=true:=h
   rw[List.drop_eq_nil_of_le h2] at h3
   cases h3
def QM (G:Gl) (T:bX) (env:Env) (H:List av):Op→Option (SV×List av)
 | .call ⟨.builtin .copy,⟨[d,s]⟩,⟨[t,ts]⟩⟩=>ob (elemOf T t) fun e=>ob (elemOf T ts) fun _=>ob (ev G env d) fun dv=>ob (ev G env s) fun sv=>ob (dU H sv) fun ys=>bb (lT H e.2.size sv)
  (match dv with
  | .sl id g off len=>ob (cG H id g) fun b=>bb (Nat.beq b.1 e.2.size&&Nat.blt 0 e.2.size&&Fi b.2 (off+len))
   (some (.int .i64 (min ys.length len:Nat),H.set id (.cells g e.2.size (b.2.take off++ys.take (min ys.length len)++b.2.drop (off+min ys.length len))))) none
  |_=>none) none
 |_=>none
theorem NR {G:Gl} {T:bX} {own:List Nat} {env:Env} {H:List av} {dst:Option Nat} {ty:Nat} {op:Op} {r:SV×List av} (h:QM G T env H op=some r):lv G T own env H dst ty op=some r:=by
 unfold QM at h
 split at h
 ·obtain⟨e,h1,h⟩:=aF h
  obtain⟨e',h2,h⟩:=aF h
  obtain⟨dv,h3,h⟩:=aF h
  obtain⟨sv,h4,h⟩:=aF h
  obtain⟨ys,h5,h⟩:=aF h
  rcases wM h with⟨h6,h⟩|⟨_,h⟩
  ·cases dv with
   |sl id g off len=>
    obtain⟨b,h7,h⟩:=aF h
    rcases wM h with⟨h8,h⟩|⟨_,h⟩
    ·simp only[Bool.and_eq_true] at h8
     obtain⟨⟨a1,a2⟩,a3⟩:=h8
     have a1:=Nat.eq_of_beq_eq_true a1
     have a2:0<e.2.size:=by simpa [Nat.blt_eq] using a2
     have a3:=Jp a3
     rw[← h]
     unfold lv
     simp only[ob,h1,h2,h3,h4,h5,h6,dO,copyV,h7,a1,a2,a3,and_self,if_true,Option.bind_some]
    ·cases h
   |_=>cases h
  ·cases h
 ·cases h
def zS (G:Gl) (T:bX) (own:List Nat) (env:Env) (H:List av) (dst:Option Nat) (ty:Nat) (op:Op):Option (SV×List av):=
 match qv G T own env H dst ty op with
 |some v=>some (v,H)
 |none=>match QM G T env H op with
  |some r=>some r
  |none=>match lv G T own env H dst ty op with
   |some r=>some r
   |none=>match Qy G T env H op with
    |some r=>some r
    |none=>match Ox G T env H op with
     |some v=>some (v,H)
     |none=>none
def Ib (call:RC) (G:Gl) (T:bX) (own:List Nat) (env:Env) (H:List av) (dst:Option Nat) (ty:Nat):Op→Option (SV×List av)
 | .call ⟨.value f,args,_⟩=>ob (ev G env f) fun fv=>ob (kJ G env args.toList) fun xs=>match fv with
  | .fn (.func g) first cap=>call g (first++xs++cap) H
  |_=>none
 |op=>zS G T own env H dst ty op
section
variable {P:Program} {G:Gl} {T:bX} {own:List Nat} {nt:Nat} {C:Cx} {call:RC}
theorem Mx {env:Env} {H:List av} {dst:Option Nat} {ty:Nat} {op:Op} {v:SV} {k:SV→List av→Prop} (h:Ox G T env H op=some v) (hk:k v H):cH P G T own env H dst ty op k:=by
 unfold Ox at h
 split at h
 ·obtain⟨X,h1,h⟩:=aF h
  obtain⟨Y,h2,h⟩:=aF h
  split at h
  ·obtain⟨h3,h⟩:=bB h
   obtain⟨n,h4,h⟩:=aF h
   cases hn:Nat.beq n 0 with
   |true=>rw[hn] at h;cases h
   |false=>
    rw[hn] at h
    cases h
    refine nM (eq:=true) h1 h2 h3 h4 (fun e=>?_) hk
    subst e
    cases hn
  ·cases h
 ·obtain⟨X,h1,h⟩:=aF h
  obtain⟨Y,h2,h⟩:=aF h
  split at h
  ·obtain⟨h3,h⟩:=bB h
   obtain⟨n,h4,h⟩:=aF h
   cases hn:Nat.beq n 0 with
   |true=>rw[hn] at h;cases h
   |false=>
    rw[hn] at h
    cases h
    refine nM (eq:=false) h1 h2 h3 h4 (fun e=>?_) hk
    subst e
    cases hn
  ·cases h
 ·cases h
theorem D3 {env:Env} {H H':List av} {dst:Option Nat} {ty:Nat} {op:Op} {v:SV} {k:SV→List av→Prop} (h:zS G T own env H dst ty op=some (v,H')) (hk:k v H'):cH P G T own env H dst ty op k:=by
 unfold zS at h
 split at h
 ·rename_i hq;cases h;exact xX hq hk
 ·split at h
  ·rename_i hq;cases h;exact B6 (NR hq) hk
  split at h
  ·rename_i hq;cases h;exact B6 hq hk
  ·split at h
   ·rename_i hq;cases h;exact Jt hq hk
   ·split at h
    ·rename_i hq;cases h;exact Mx hq hk
    ·cases h
theorem Lz (hc:yA P G call) {env:Env} {H H':List av} {dst:Option Nat} {ty:Nat} {op:Op} {v:SV} {k:SV→List av→Prop} (h:Ib call G T own env H dst ty op=some (v,H')) (hk:k v H'):cH P G T own env H dst ty op k:=by
 unfold Ib at h
 split at h
 ·obtain⟨fv,h1,h⟩:=aF h
  obtain⟨xs,h2,h⟩:=aF h
  split at h
  ·refine⟨_,h1,xs,h2,aY.of ((hc _ _ _ _ _ h).mono ?_)⟩
   rintro r H2 ⟨rfl,rfl⟩
   exact hk
  ·cases h
 ·exact D3 h hk
theorem pM (hc:yA P G call) {env:Env} {H H':List av} {dst:Option Nat} {ty:Nat} {op:Op} {v:SV} {k:SV→List av→Prop} (h:Ib call G T own (fE env (gK op)) H dst ty op=some (v,H')) (hk:k v H'):cH P G T own env H dst ty op k:=by
 rw[← su (env:=fE env (gK op)) (fun x hx=>Ha hx)]
 exact Lz hc h hk
def OH (nt:Nat) (d:Option Nat) (x:SV) (env:Env):Option Env:=match d with
 |some d=>bif Nat.blt d nt then some ((d,x)::env) else none
 |none=>some env
theorem zT {d:Option Nat} {x:SV} {env env':Env} {k:Env→Prop} (h:OH nt d x env=some env') (hk:k env'):lM nt d x env k:=by
 cases d with
 |none=>cases h;exact hk
 |some d=>
  unfold OH at h
  cases hb:Nat.blt d nt with
  |true=>simp only[hb,cond_true,Option.some.injEq] at h;subst h;exact⟨by simpa [Nat.blt_eq] using hb,hk⟩
  |false=>simp only[hb,cond_false] at h;cases h
end
section
variable (call:RC) (G:Gl) (T:bX) (own:List Nat) (nt:Nat)
def N3 (all:List Oper) (o:Oper) (env:Env) (H:List av):Option (SV×List av):=
 match o.guard with
 |none=>Ib call G T own (fE env (gK o.op)) H o.dst o.type o.op
 |some (j,want)=>ob ((all[j]?).bind (·.dst)) fun dj=>ob (oJ env dj) fun v=>ob (yF v) fun b=>bb (b==some want) (Ib call G T own (fE env (gK o.op)) H o.dst o.type o.op) (some (.undef,H))
def EP (all:List Oper):List Oper→Env→List av→Option (Env×List av)
 |[],env,H=>some (env,H)
 |o::r,env,H=>match N3 call G T own all o env H with
  |some (x,H')=>(match OH nt o.dst x env with
   |some env'=>EP all r env' H'
   |none=>none)
  |none=>none
def Nx (all:List Oper) (env:Env) (H:List av):List Nat→Bool
 |[]=>true
 |i::r=>(match all[i]? with
  |some o=>tu (qg G T own all o env H) ((o.dst).bind (look env))
  |none=>false)&&Nx all env H r
def dstsOf (all:List Oper):List Nat:=all.filterMap (·.dst)
def vF (e1 e2:Env):List Nat→Bool
 |[]=>true
 |t::r=>tu (oJ e1 t) (oJ e2 t)&&vF e1 e2 r
end
section
variable {P:Program} {G:Gl} {T:bX} {own:List Nat} {nt:Nat} {C:Cx} {call:RC} {ρ:Option Nat}
theorem LL (hc:yA P G call) {all:List Oper} {o:Oper} {env:Env} {H H':List av} {x:SV} {k:SV→List av→Prop} (h:N3 call G T own all o env H=some (x,H')) (hk:k x H'):ll P G T own all o env H k:=by
 unfold N3 at h
 unfold ll
 cases hgd:o.guard with
 |none=>
  simp only[hgd] at h
  exact pM hc h hk
 |some jw=>
  obtain⟨j,want⟩:=jw
  simp only[hgd] at h
  obtain⟨dj,h1,h⟩:=aF h
  obtain⟨v,h2,h⟩:=aF h
  rw[gm] at h2
  obtain⟨b,h3,h⟩:=aF h
  refine⟨dj,h1,v,h2,b,h3,fun e=>?_,fun e=>?_⟩
  ·rw[e] at h;exact pM hc h hk
  ·rw[e] at h;cases h;exact hk
theorem Bm (hc:yA P G call) {all:List Oper}:∀ (l:List Oper) {env env':Env} {H H':List av} {k:Env→List av→Prop},EP call G T own nt all l env H=some (env',H')→k env' H'→jS P G T own nt all l env H k
 |[],env,env',H,H',k,h,hk=>by cases h;exact hk
 |o::r,env,env',H,H',k,h,hk=>by
  unfold EP at h
  split at h
  ·rename_i x H1 hg
   split at h
   ·rename_i env1 hp
    have ih:=Bm hc r h hk
    unfold N3 at hg
    unfold jS
    cases hgd:o.guard with
    |none=>
     simp only[hgd] at hg
     exact pM (k:=fun x H'=>lM nt o.dst x env fun env'=>jS P G T own nt all r env' H' k) hc hg (zT hp ih)
    |some jw=>
     obtain⟨j,want⟩:=jw
     simp only[hgd] at hg
     obtain⟨dj,h1,hg⟩:=aF hg
     obtain⟨v,h2,hg⟩:=aF hg
     rw[gm] at h2
     obtain⟨b,h3,hg⟩:=aF hg
     refine⟨dj,h1,v,h2,b,h3,fun e=>?_,fun e=>?_⟩
     ·rw[e] at hg;exact pM (k:=fun x H'=>lM nt o.dst x env fun env'=>jS P G T own nt all r env' H' k) hc hg (zT hp ih)
     ·rw[e] at hg;cases hg;exact zT hp ih
   ·cases h
  ·cases h
theorem Hw {all:List Oper} {env:Env} {H:List av}:∀ {l:List Nat},Nx G T own all env H l=true→eG G T own all env H l
 |[],_=>trivial
 |i::r,h=>by
  unfold Nx at h
  rw[Bool.and_eq_true] at h
  obtain⟨h1,h2⟩:=h
  split at h1
  ·rename_i o ho
   exact⟨⟨o,ho,vl h1⟩,Hw h2⟩
  ·cases h1
theorem Ie {all:List Oper} {n m:Nat} {ex:List Nat} {env:Env} {H:List av} {K:Env→List av→Prop} (hm:Nat.ble all.length m=true) (h:K env H):(fF P G T own all) (n+1) m ex env H K:=fun L hL=>by
 have hall:∀ i o,all[i]? =some o→i∈L:=fun i o ho=>(hL i).2 (kX.2 (.inl (by
  have h1:=(List.getElem?_eq_some_iff.1 ho).1
  have h2:=Nat.le_of_ble_eq_true hm
  omega)))
 exact .inr ⟨fun i o ho hn=>(hn (hall i o ho)).elim,.inl ⟨hall,h⟩⟩
theorem Dr.up {all:List Oper} {K:Env→List av→Prop}:∀ (n:Nat) {L:List Nat} {env:Env} {H:List av},Dr P G T own all n L env H K→Dr P G T own all (n+1) L env H K
 |0,_,_,_,h=>h.elim
 |n+1,L,env,H,h=>by
  rcases h with⟨i,o,v,h1,h2,h3,h4,h5,h6⟩|⟨h1,h2⟩
  ·exact .inl ⟨i,o,v,h1,h2,h3,h4,h5,Dr.up n h6⟩
  ·refine .inr ⟨h1,?_⟩
   rcases h2 with h2|⟨h2,h3⟩
   ·exact .inl h2
   ·exact .inr ⟨h2,fun j o a1 a2 a3=>kK (fun x H' hx=>⟨hx.1,Dr.up n hx.2⟩) (h3 j o a1 a2 a3)⟩
theorem fF.le {all:List Oper} {m:Nat} {ex:List Nat} {env:Env} {H:List av} {K:Env→List av→Prop} {n n':Nat} (hn:n≤n') (h:fF P G T own all n m ex env H K):fF P G T own all n' m ex env H K:=by
 induction hn with
 |refl=>exact h
 |step _ ih=>exact fun L hL=>Dr.up _ (ih L hL)
theorem fF.Nn {all:List Oper} {m:Nat} {ex:List Nat} {env:Env} {H:List av} {K K':Env→List av→Prop} {n:Nat} (hk:∀ e h,K e h→K' e h) (h:fF P G T own all n m ex env H K):fF P G T own all n m ex env H K':=by
 have key:∀ (n:Nat) {L:List Nat} {env:Env} {H:List av},Dr P G T own all n L env H K→Dr P G T own all n L env H K':=by
  intro n
  induction n with
  |zero=>intro L env H h;exact h.elim
  |succ n ih=>
   intro L env H h
   rcases h with⟨i,o,v,h1,h2,h3,h4,h5,h6⟩|⟨h1,h2⟩
   ·exact .inl ⟨i,o,v,h1,h2,h3,h4,h5,ih h6⟩
   ·refine .inr ⟨h1,?_⟩
    rcases h2 with⟨h2,h3⟩|⟨h2,h3⟩
    ·exact .inl ⟨h2,hk _ _ h3⟩
    ·exact .inr ⟨h2,fun j o a1 a2 a3=>kK (fun x H' hx=>⟨hx.1,ih hx.2⟩) (h3 j o a1 a2 a3)⟩
 exact fun L hL=>key n (h L hL)
theorem Jw {all:List Oper} {i:Nat} {o:Oper} (ho:all[i]? =some o) {d:Nat} (hd:o.dst=some d):d∈dstsOf all:=
 List.mem_filterMap.2 ⟨o,List.mem_of_getElem? ho,hd⟩
theorem og {all:List Oper} {i:Nat} {o:Oper} (ho:all[i]? =some o) {x:SV} {env:Env} {t:Nat} (ht:t∉dstsOf all):look (cE o.dst x env) t=look env t:=by
 cases hd:o.dst with
 |none=>rfl
 |some d=>
  show(if t=d then some x else look env t)=look env t
  rw[if_neg (fun e=>ht (by rw[e];exact Jw ho hd))]
theorem sJ {e1 e2:Env}:∀ {l:List Nat},vF e1 e2 l=true→∀ t∈l,look e1 t=look e2 t
 |t::r,h,s,hs=>by
  simp only[vF,Bool.and_eq_true] at h
  rcases List.mem_cons.1 hs with rfl|hs
  ·have:=vl h.1
   rwa[gm,gm] at this
  ·exact sJ h.2 s hs
theorem common {P:Nat→Nat→Prop} (hP:∀ j n n',n≤n'→P n j→P n' j):∀ (l:List Nat),(∀ j∈l,∃ N,P N j)→∃ N,∀ j∈l,P N j
 |[],_=>⟨0,fun _ h=>by cases h⟩
 |j::r,h=>by
  obtain⟨N1,h1⟩:=h j (List.mem_cons_self ..)
  obtain⟨N2,h2⟩:=common hP r (fun j hj=>h j (List.mem_cons_of_mem _ hj))
  refine⟨max N1 N2,fun j' hj'=>?_⟩
  rcases List.mem_cons.1 hj' with rfl|hj'
  ·exact hP _ _ _ (Nat.le_max_left ..) h1
  ·exact hP _ _ _ (Nat.le_max_right ..) (h2 j' hj')
end
def RP (G:Gl) (env:Env):Operand→Option SV
 | .tmp t=>oJ env t
 |x=>ev G env x
theorem Im {G:Gl} {env:Env} (x:Operand):RP G env x=ev G env x:=by
 cases x with
 |tmp t=>exact gm env t
 |_=>rfl
def OY:List Nat→Env→Env
 |_,[]=>[]
 |seen,(t,x)::r=>bif fB t seen then OY seen r else (t,x)::OY (t::seen) r
theorem uf:∀ (env:Env) (seen:List Nat) (t:Nat) (x:SV),look (OY seen env) t=some x→t∉seen∧look env t=some x
 |[],seen,t,x,h=>by cases h
 |(s,y)::r,seen,t,x,h=>by
  unfold OY at h
  cases hm:fB s seen with
  |true=>
   rw[hm,cond_true] at h
   obtain⟨h1,h2⟩:=uf r seen t x h
   refine⟨h1,?_⟩
   unfold look
   rw[if_neg (fun e=>h1 (by rw[e];exact dh.1 hm))]
   exact h2
  |false=>
   rw[hm,cond_false] at h
   unfold look at h ⊢
   by_cases e:t=s
   ·rw[if_pos e] at h ⊢
    refine⟨fun hi=>?_,h⟩
    rw[e] at hi
    rw[dh.2 hi] at hm
    cases hm
   ·rw[if_neg e] at h ⊢
    obtain⟨h1,h2⟩:=uf r (s::seen) t x h
    exact⟨fun hi=>h1 (List.mem_cons_of_mem _ hi),h2⟩
section
variable (call:RC) (G:Gl) (T:bX) (own:List Nat) (nt:Nat)
end
section
variable {P:Program} {G:Gl} {T:bX} {own:List Nat} {nt:Nat} {C:Cx} {call:RC} {ρ:Option Nat}
end
def jk (f:SV→Option SV):List SV→Option (List SV)
 |[]=>some []
 |x::r=>match f x with
  |some y=>(match jk f r with
   |some ys=>some (y::ys)
   |none=>none)
  |none=>none
def BA (H:List av) (n:Nat):Nat→SV→Option SV
 |0,_=>none
 |d+1,x=>bif x.under n then some x else match x with
  | .agg fs=>(match jk (BA H n d) fs with
   |some ys=>some (.agg ys)
   |none=>none)
  | .tuple fs=>(match jk (BA H n d) fs with
   |some ys=>some (.tuple ys)
   |none=>none)
  | .list sz fs=>(match jk (BA H n d) fs with
   |some ys=>some (.list sz ys)
   |none=>none)
  | .sl id g off len=>bif Nat.ble n id then (match H[id]? with
   |some (.cells g' sz vals)=>bif Nat.beq g g' then (match jk (BA H n d) ((vals.drop off).take len) with
    |some ys=>some (.list sz ys)
    |none=>none) else none
   |_=>none) else none
  |_=>none
theorem mH {H:List av} {n:Nat} {f:SV→Option SV} (hf:∀ x y,f x=some y→bF H n [] x y):∀ {xs ys:List SV},jk f xs=some ys→b7 H n [] xs ys
 |[],ys,h=>by cases h;exact .nil
 |x::r,ys,h=>by
  unfold jk at h
  split at h
  ·rename_i y hy
   split at h
   ·rename_i zs hzs
    cases h
    exact .cons _ _ _ _ (hf _ _ hy) (mH hf hzs)
   ·cases h
  ·cases h
theorem pW {H:List av} {n:Nat}:∀ (d:Nat) (x y:SV),BA H n d x=some y→bF H n [] x y
 |0,x,y,h=>by cases h
 |d+1,x,y,h=>by
  unfold BA at h
  cases hu:x.under n with
  |true=>rw[hu,cond_true] at h;cases h;exact .same _ hu
  |false=>
   rw[hu,cond_false] at h
   cases x with
   |agg fs=>
    simp only at h
    split at h
    ·rename_i ys hy;cases h;exact .agg _ _ (mH (pW d) hy)
    ·cases h
   |tuple fs=>
    simp only at h
    split at h
    ·rename_i ys hy;cases h;exact .tuple _ _ (mH (pW d) hy)
    ·cases h
   |list sz fs=>
    simp only at h
    split at h
    ·rename_i ys hy;cases h;exact .list _ _ _ (mH (pW d) hy)
    ·cases h
   |sl id g off len=>
    simp only at h
    cases hb:Nat.ble n id with
    |false=>rw[hb] at h;cases h
    |true=>
     rw[hb,cond_true] at h
     split at h
     ·rename_i g' sz vals hH
      cases hg:Nat.beq g g' with
      |false=>rw[hg] at h;cases h
      |true=>
       rw[hg,cond_true] at h
       have hg:=Nat.eq_of_beq_eq_true hg
       subst hg
       split at h
       ·rename_i ys hy;cases h;exact .sl _ _ _ _ _ _ _ hH (Nat.le_of_ble_eq_true hb) (by simp) (mH (pW d) hy)
       ·cases h
     ·cases h
   |_=>cases h
def av.rV (n:Nat):av→Bool
 | .cells _ _ vals=>bif Fi vals 1000 then uA vals 255 else SV.aj n vals
 |b=>b.under n
theorem av.qX {n:Nat} {b:av} (h:b.rV n=true):b.under n=true:=by
 cases b with
 |cells g sz vals=>
  simp only[av.rV] at h
  cases h1:Fi vals 1000 with
  |true=>rw[h1,cond_true] at h;exact mF h
  |false=>rw[h1,cond_false] at h;exact h
 |_=>exact h
def O2 (n0:Nat) (x:SV) (H':List av):SV×List av:=bif Nat.ble n0 H'.length&&(H'.take n0).all (·.rV n0) then (match BA H' n0 12 x with
 |some y=>(y,H'.take n0)
 |none=>(x,H')) else (x,H')
theorem LN {C:Cx} {H':List av} {x:SV} {n0:Nat} (hC:C.H.length=n0):Fin C H' x (fun r H2=>H2=(O2 n0 x H').2∧r=(O2 n0 x H').1):=by
 unfold O2
 cases hb:(Nat.ble n0 H'.length&&(H'.take n0).all (·.rV n0)) with
 |false=>exact Fin.same ⟨rfl,rfl⟩
 |true=>
  simp only[cond_true]
  simp only[Bool.and_eq_true] at hb
  obtain⟨h1,h3⟩:=hb
  have hlen:(H'.take n0).length=n0:=by rw[List.length_take];exact Nat.min_eq_left (Nat.le_of_ble_eq_true h1)
  have hcl:closed (H'.take n0):=fun B hB=>by rw[hlen];exact av.qX (List.all_eq_true.1 h3 B hB)
  cases hy:BA H' n0 12 x with
  |none=>exact Fin.same ⟨rfl,rfl⟩
  |some y=>
   have hfz:bF (H'.take n0++H'.drop n0) n0 [] x y:=by rw[List.take_append_drop];exact pW _ _ _ hy
   have key:Fin C (H'.take n0++H'.drop n0) x (fun r H2=>H2=H'.take n0∧r=y):=Fin.aS (fun _ _ h=>h) hlen hC hcl hfz ⟨rfl,rfl⟩
   rwa[List.take_append_drop] at key
section
variable (P:Program) (G:Gl) (T:bX) (ow:FuncId→List Nat) (gc:FuncId→Bool) (ov:RC) (fuel:Nat)
end
theorem aq.lift {P:Program} {G0 G:Gl} {f:FuncId} {b:Bool} (C0:Cx) (hb:G0.base=some C0) (hb2:G.base=some C0) (h0:C0.H=[]) (hG:ah G0) (hs:∀ p∈G0.l,p∈G.l) (h:aq P G0 f [] [] (fun r _=>r= .bool b)) (H:List av):aq P G f [] H (fun r H'=>H'=H∧r= .bool b):=by
 refine⟨h.1,fun c vs hH hc hg hv=>?_⟩
 subst hH
 have h00:=Cx.cut (θ:=c.θ) (H:=[]) (X:=c.H) (w:=c.w) hc (fun B hB=>by cases hB)
 have hg0:CY G0 ⟨c.θ,[],c.w⟩:=⟨fun p hp=>(aB.jg (θ:=c.θ) (H:=[]) (X:=c.H) (w:=c.w)).1 _ _ (hg.1 p (hs p hp)) (hG p hp),fun C1 e=>by
  rw[hb] at e
  cases e
  exact h00.2 C0 (by rw[h0];exact Nat.le_refl _) (hg.2 C0 hb2)⟩
 have hv0:ax ⟨c.θ,[],c.w⟩ [] vs:=hv
 refine(h.2 ⟨c.θ,[],c.w⟩ vs rfl h00.1 hg0 hv0).mono ?_
 rintro e w' ⟨v,x,c',e1,e2,e3,e4,e5,e6⟩
 subst e2
 have hold:∀ k,k<c.w.heap.size→c'.w.heap[k]? =c.w.heap[k]? :=fun k hk=>e6.Fz k hk (fun⟨id,o,⟨B,hB,_⟩,_⟩=>by cases hB)
 obtain⟨g1,g2⟩:=Cx.world hc (w':=c'.w) hold e6.size e6.os e6.tape e6.output
 exact⟨v,x,{ c with w:=c'.w},e1,rfl,⟨rfl,e3⟩,g2,by rw[e3] at e5 ⊢;exact e5,g1⟩
end
theorem aq.JM {P:Program} {G:Gl} {f:FuncId} (hf:∃ fn,P.funcs[f]? =some fn∧(fn.name== "runtime.NumGoroutine")=false∧fn.body.isNone=false)
 (hc:∀ (b:Nat) (es:Array MapEntry) (clock:Nat) (w:World),w.heap[b]? =some (.map es clock)→Calls P f #[.map (some b)] w fun e w'=>e= .returned (.map (some w.heap.size))∧w'=w.alloc (.map es clock))
 (id:Nat) (H:List av) (kd:Option IntKind) (es:List (SV×SV)) (hH:H[id]? =some (.map kd es)):aq P G f [.map id] H (fun r H'=>H'=H++[.map kd es]∧r= .map H.length):=by
 refine⟨hf,fun c vs e1 hh hG hv=>?_⟩
 subst e1
 obtain⟨v,us,hv1,hv2,rfl⟩:=ax.bg.1 hv
 rw[ax.dm.1 hv2]
 simp only[aB,hH] at hv1
 obtain⟨_,b,hθ,rfl⟩:=hv1
 obtain⟨b',ents,clk,h1,h2,h3,h4,h5⟩:=hh.dQ id _ hH
 rw[hθ] at h1;cases h1
 refine(callsIn_wide (n:=0)).2 ?_
 refine(hc b ents clk c.w h2).mono ?_
 rintro e w' ⟨rfl,rfl⟩
 have hnew:(c.w.alloc (.map ents clk)).heap[c.w.heap.size]? =some (.map ents clk):=heap_alloc_new c.w _
 obtain⟨g1,g2⟩:=Cx.fresh hh (w':=c.w.alloc (.map ents clk)) c.w.heap.size (Nat.le_refl _) 0 (some (c.w.heap.size,0)) (.inr rfl) (.map kd es) (fun b hb=>Go.RowKit.Below.heap_alloc _ _ b hb) (by simp) rfl rfl rfl (fun hg=>⟨c.w.heap.size,ents,clk,by simp,hnew,cg.grow hg _ _ h3,h4,h5⟩)
 refine⟨.map (some c.w.heap.size),.map c.H.length,_,rfl,rfl,⟨rfl,rfl⟩,g2,?_,g1⟩
 simp only[aB]
 refine⟨rfl,?_⟩
 simp
def O8 (C0:Cx):Prop:=C0.H=[]∧∃ ev,C0.w.cell? ⟨0,0,none⟩=some ev∧(ev= .nilIface∨∃ te pe,ev= .iface te pe)
section
open Go Go.ChangeShapes Go.WideShapes Go.RowKit
theorem own:ownKnob Tryz.prog.godebug=none:=by kernel_rfl
theorem laid:laidOutB Tryz.prog=true:=by kernel_rfl
theorem RS:Tryz.prog.globalNamed "strconv.ErrSyntax" =some 0:=by kernel_rfl
theorem LK:(Tryz.prog.globals[0]?).map (·.type)=some 96:=by kernel_rfl
theorem AK:Tryz.prog.cellsOf 233=1:=by kernel_rfl
theorem HV:Tryz.prog.cellsOf 9=1:=by kernel_rfl
theorem star: "*" ++ "errors.errorString" = "*errors.errorString" :=by decide
theorem Kc (u:TypeId) (h:Tryz.prog.typeName? 3 u=some "*errors.errorString"):u=231:=
 typeName_ptr_named (nm:= "errors.errorString") (by rw[star];kernel_rfl) (by kernel_rfl) (by decide) u (by rw[star];exact h)
def GB (W:World):Gl:=⟨[],some (vt W)⟩
theorem im (W:World):ah (GB W):=fun p hp=>by cases hp
theorem L6 (W:World):CY (GB W) (vt W):=⟨fun p hp=>(by cases hp),fun C0 h=>(by cases h;exact Grow.refl _)⟩
theorem Pm {W:World} (h:laidMetH Tryz.prog [("math/bits.deBruijn32tab",Rows.laid_math_bits_deBruijn32tab),("math/bits.deBruijn64tab",Rows.laid_math_bits_deBruijn64tab),("internal/strconv.uint64pow10",Rows.laid_internal_strconv_uint64pow10),("strconv.ErrRange",Rows.laid_strconv_ErrRange),("strconv.ErrSyntax",Rows.laid_strconv_ErrSyntax)] W):O8 (vt W):=by
 have h2:laidMet Tryz.prog [("strconv.ErrSyntax",Rows.laid_strconv_ErrSyntax)] W:=laidMet.tail (laidMet.tail (laidMet.tail (laidMet.tail h)))
 obtain⟨a0,s0,hv0,-,-,-⟩:=laid_sentinel h2 RS LK Tryz.underlying96 Kc Tryz.underlying231 Tryz.underlying233 rfl rfl Tryz.underlying9 AK HV
 exact⟨rfl,_,(by have h0:=World.var?_cell RS hv0 0;show W.cell? _=_;simpa using h0),.inr ⟨_,_,rfl⟩⟩
section
variable {H:Type} {enc:TypeId×Value→H} {W:World} {sp:Nat→Bool}
theorem lL {P:Program} {G:Gl} {f:FuncId} {args:List SV} {vs:List Value} (h:aq P G f args [] (fun r H'=>H'=[]∧r= .bool true)) (hg:CY G (vt W)) (hv:ax (vt W) args vs) {R:World→Prop} (hR:∀ W',Below W.heap.size W W'→R W'):
 Calls P f vs.toArray W fun e W'=>∃ v,e= .returned v∧v= .bool true∧R W':=by
 refine(callsIn_wide (n:=0)).1 ((h.2 (vt W) vs rfl (OK W) hg hv).mono ?_)
 rintro e w' ⟨v,x,c',rfl,hw,⟨_,rfl⟩,_,hx,hg⟩
 simp only[aB] at hx
 exact⟨v,rfl,hx,hR _ (Grow.below hg hw)⟩
end
def El:DataW Unit→List Value
 | .agg l=>l.map fun
  | .lit (.int k n)=> .int k n
  |_=> .nilFunc
 |_=>[]
def qN (vs:List Value):Obj→Obj
 | .cells _ t fr=> .cells vs.toArray t fr
 |o=>o
noncomputable def dD (os:Os):World:=
 { World.holding Tryz.prog os ⟨#[],#[],[]⟩ with heap:=(((((((World.holding Tryz.prog os ⟨#[],#[],[]⟩).heap.modify 0 (qN [.iface 231 (.pointer (some ⟨(World.holding Tryz.prog os ⟨#[],#[],[]⟩).heap.size,0,none⟩))])).modify 1 (qN [.iface 231 (.pointer (some ⟨(World.holding Tryz.prog os ⟨#[],#[],[]⟩).heap.size+1,0,none⟩))])).modify 2 (qN (El Rows.laid_internal_strconv_uint64pow10))).modify 3 (qN (El Rows.laid_math_bits_deBruijn32tab))).modify 4 (qN (El Rows.laid_math_bits_deBruijn64tab))).push
  (.cells #[.string ⟨#[105,110,118,97,108,105,100,32,115,121,110,116,97,120]⟩] 233 (0,0))).push (.cells #[.string ⟨#[118,97,108,117,101,32,111,117,116,32,111,102,32,114,97,110,103,101]⟩] 233 (0,0))}
end
end Go.Proofs.YtjdfoonhnmpkdaaGreatDoor
section
open Go
namespace Go.Proofs
open Go.Shelf
def Tryz.zr:Go.Shelf.Ren:=⟨fun|172=>61|244=>102|245=>103|247=>143|279=>144|280=>145|281=>146|282=>147|287=>168|316=>169|171=>62|205=>170|321=>188|322=>189|243=>104|246=>148|283=>171|284=>172|285=>173|286=>174|129=>116|317=>190|318=>191|319=>192|320=>193|337=>199|338=>200|n=>n,fun|9=>9|3=>3|75=>96|76=>97|4=>4|5=>5|167=>172|37=>173|0=>0|85=>174|2=>2|168=>176|53=>143|175=>208|46=>108|210=>212|127=>230|145=>233|143=>231|21=>21|171=>214|173=>216|212=>235|51=>141|20=>20|213=>236|232=>241|233=>242|80=>200|n=>n,fun|15=>0|16=>1|17=>2|18=>3|19=>4|n=>n⟩
theorem Tryz.uV:Go.Proofs.LaysC.n172 Tryz.prog Tryz.zr:={
 mixed:=by kernel_rfl
 f129:=Tryz.func116.trans (congrArg some (by kernel_rfl))
 f171:=Tryz.func62.trans (congrArg some (by kernel_rfl))
 f172:=Tryz.func61.trans (congrArg some (by kernel_rfl))
 f205:=Tryz.func170.trans (congrArg some (by kernel_rfl))
 f243:=Tryz.func104.trans (congrArg some (by kernel_rfl))
 f244:=Tryz.func102.trans (congrArg some (by kernel_rfl))
 f245:=Tryz.func103.trans (congrArg some (by kernel_rfl))
 f246:=Tryz.func148.trans (congrArg some (by kernel_rfl))
 f247:=Tryz.func143.trans (congrArg some (by kernel_rfl))
 f279:=Tryz.func144.trans (congrArg some (by kernel_rfl))
 f280:=Tryz.func145.trans (congrArg some (by kernel_rfl))
 f281:=Tryz.func146.trans (congrArg some (by kernel_rfl))
 f282:=Tryz.func147.trans (congrArg some (by kernel_rfl))
 f283:=Tryz.func171.trans (congrArg some (by kernel_rfl))
 f284:=Tryz.func172.trans (congrArg some (by kernel_rfl))
 f285:=Tryz.func173.trans (congrArg some (by kernel_rfl))
 f286:=Tryz.func174.trans (congrArg some (by kernel_rfl))
 f287:=Tryz.func168.trans (congrArg some (by kernel_rfl))
 f316:=Tryz.func169.trans (congrArg some (by kernel_rfl))
 f317:=Tryz.func190.trans (congrArg some (by kernel_rfl))
 f318:=Tryz.func191.trans (congrArg some (by kernel_rfl))
 f319:=Tryz.func192.trans (congrArg some (by kernel_rfl))
 f320:=Tryz.func193.trans (congrArg some (by kernel_rfl))
 f321:=Tryz.func188.trans (congrArg some (by kernel_rfl))
 f322:=Tryz.func189.trans (congrArg some (by kernel_rfl))
 f337:=Tryz.func199.trans (congrArg some (by kernel_rfl))
 f338:=Tryz.func200.trans (congrArg some (by kernel_rfl))
 t0:=Tryz.underlying0
 a0:=Tryz.isAgg0
 z0:=Tryz.sizeOf0
 v0:=Tryz.zeroValue0
 t2:=Tryz.underlying2
 a2:=Tryz.isAgg2
 z2:=Tryz.sizeOf2
 v2:=Tryz.zeroValue2
 t3:=Tryz.underlying3
 a3:=Tryz.isAgg3
 z3:=Tryz.sizeOf3
 v3:=Tryz.zeroValue3
 t4:=Tryz.underlying4
 a4:=Tryz.isAgg4
 z4:=Tryz.sizeOf4
 v4:=Tryz.zeroValue4
 t5:=Tryz.underlying5
 a5:=Tryz.isAgg5
 z5:=Tryz.sizeOf5
 v5:=Tryz.zeroValue5
 t9:=Tryz.underlying9
 a9:=Tryz.isAgg9
 z9:=Tryz.sizeOf9
 v9:=Tryz.zeroValue9
 t20:=Tryz.underlying20
 a20:=Tryz.isAgg20
 z20:=Tryz.sizeOf20
 v20:=Tryz.zeroValue20
 t21:=Tryz.underlying21
 a21:=Tryz.isAgg21
 z21:=Tryz.sizeOf21
 v21:=Tryz.zeroValue21
 t37:=Tryz.underlying173
 a37:=Tryz.isAgg173
 z37:=Tryz.sizeOf173
 v37:=Tryz.zeroValue173
 t46:=Tryz.underlying108
 a46:=Tryz.isAgg108
 z46:=Tryz.sizeOf108
 v46:=Tryz.zeroValue108
 t51:=Tryz.underlying141
 a51:=Tryz.isAgg141
 z51:=Tryz.sizeOf141
 v51:=Tryz.zeroValue141
 t53:=Tryz.underlying143
 a53:=Tryz.isAgg143
 z53:=Tryz.sizeOf143
 v53:=Tryz.zeroValue143
 t75:=Tryz.underlying96
 a75:=Tryz.isAgg96
 z75:=Tryz.sizeOf96
 v75:=Tryz.zeroValue96
 t76:=Tryz.underlying97
 a76:=Tryz.isAgg97
 z76:=Tryz.sizeOf97
 v76:=Tryz.zeroValue97
 t85:=Tryz.underlying174
 a85:=Tryz.isAgg174
 z85:=Tryz.sizeOf174
 v85:=Tryz.zeroValue174
 t127:=Tryz.underlying230
 a127:=Tryz.isAgg230
 z127:=Tryz.sizeOf230
 v127:=Tryz.zeroValue230
 t143:=Tryz.underlying231
 a143:=Tryz.isAgg231
 z143:=Tryz.sizeOf231
 v143:=Tryz.zeroValue231
 t145:=Tryz.underlying233
 a145:=Tryz.isAgg233
 z145:=Tryz.sizeOf233
 v145:=Tryz.zeroValue233
 t167:=Tryz.underlying172
 a167:=Tryz.isAgg172
 z167:=Tryz.sizeOf172
 v167:=Tryz.zeroValue172
 t168:=Tryz.underlying176
 a168:=Tryz.isAgg176
 z168:=Tryz.sizeOf176
 v168:=Tryz.zeroValue176
 t171:=Tryz.underlying214
 a171:=Tryz.isAgg214
 z171:=Tryz.sizeOf214
 v171:=Tryz.zeroValue214
 t173:=Tryz.underlying216
 a173:=Tryz.isAgg216
 z173:=Tryz.sizeOf216
 v173:=Tryz.zeroValue216
 t175:=Tryz.underlying208
 a175:=Tryz.isAgg208
 z175:=Tryz.sizeOf208
 v175:=Tryz.zeroValue208
 t210:=Tryz.underlying212
 a210:=Tryz.isAgg212
 z210:=Tryz.sizeOf212
 v210:=Tryz.zeroValue212
 t212:=Tryz.underlying235
 a212:=Tryz.isAgg235
 z212:=Tryz.sizeOf235
 v212:=Tryz.zeroValue235
 t213:=Tryz.underlying236
 a213:=Tryz.isAgg236
 z213:=Tryz.sizeOf236
 t232:=Tryz.underlying241
 a232:=Tryz.isAgg241
 z232:=Tryz.sizeOf241
 v232:=Tryz.zeroValue241
 t233:=Tryz.underlying242
 a233:=Tryz.isAgg242
 z233:=Tryz.sizeOf242
 v233:=Tryz.zeroValue242
 g15:=by kernel_rfl
 g16:=by kernel_rfl
 g17:=by kernel_rfl
 g18:=by kernel_rfl
 g19:=by kernel_rfl
 t80:=Tryz.underlying200
 a80:=Tryz.isAgg200
 z80:=Tryz.sizeOf200
 v80:=Tryz.zeroValue200
 i0:=by kernel_rfl
 i2:=by kernel_rfl
 i3:=by kernel_rfl
 i4:=by kernel_rfl
 i5:=by kernel_rfl
 i9:=by kernel_rfl
 i20:=by kernel_rfl
 i21:=by kernel_rfl
 i37:=by kernel_rfl
 i46:=by kernel_rfl
 i51:=by kernel_rfl
 i53:=by kernel_rfl
 i75:=by kernel_rfl
 i76:=by kernel_rfl
 i80:=by kernel_rfl
 i85:=by kernel_rfl
 i127:=by kernel_rfl
 i143:=by kernel_rfl
 i145:=by kernel_rfl
 i167:=by kernel_rfl
 i168:=by kernel_rfl
 i171:=by kernel_rfl
 i173:=by kernel_rfl
 i175:=by kernel_rfl
 i210:=by kernel_rfl
 i212:=by kernel_rfl
 i232:=by kernel_rfl
 i233:=by kernel_rfl
 m15:=by kernel_rfl
 m16:=by kernel_rfl
 m17:=by kernel_rfl
 m18:=by kernel_rfl
 m19:=by kernel_rfl
 c0:=by kernel_rfl
 c2:=by kernel_rfl
 c3:=by kernel_rfl
 c4:=by kernel_rfl
 c5:=by kernel_rfl
 c9:=by kernel_rfl
 c20:=by kernel_rfl
 c21:=by kernel_rfl
 c37:=by kernel_rfl
 c46:=by kernel_rfl
 c51:=by kernel_rfl
 c53:=by kernel_rfl
 c75:=by kernel_rfl
 c76:=by kernel_rfl
 c80:=by kernel_rfl
 c85:=by kernel_rfl
 c127:=by kernel_rfl
 c143:=by kernel_rfl
 c145:=by kernel_rfl
 c167:=by kernel_rfl
 c168:=by kernel_rfl
 c171:=by kernel_rfl
 c173:=by kernel_rfl
 c175:=by kernel_rfl
 c210:=by kernel_rfl
 c212:=by kernel_rfl
 c213:=by kernel_rfl
 c232:=by kernel_rfl
 c233:=by kernel_rfl}
open Go.RowKit in
def Tryz.DP:Go.Shelf.Ren:=⟨fun|5=>38|7=>80|n=>n,fun|23=>74|25=>9|n=>n,fun|n=>n⟩
theorem Tryz.Oj:SlLaysW.n5 Tryz.prog Tryz.DP:={
 mixed:=by kernel_rfl
 f5:=⟨ "maps.Clone[map[string]int,string,int]",by decide,by kernel_rfl⟩
 f7:=Tryz.func80
 t4:=Tryz.underlying4
 a4:=Tryz.isAgg4
 z4:=Tryz.sizeOf4
 v4:=Tryz.zeroValue4
 t20:=Tryz.underlying20
 a20:=Tryz.isAgg20
 z20:=Tryz.sizeOf20
 v20:=Tryz.zeroValue20
 t23:=Tryz.underlying74
 a23:=Tryz.isAgg74
 z23:=Tryz.sizeOf74
 v23:=Tryz.zeroValue74}
theorem Tryz.maps_Clone (b:Nat) (es:Array MapEntry) (clock:Nat) (w:World) (hb:w.heap[b]? =some (.map es clock)):
 Calls Tryz.prog 38 #[.map (some b)] w fun e w'=>e= .returned (.map (some w.heap.size))∧w'=w.alloc (.map es clock):=AnyW.maps_Clone Tryz.Oj b es clock w hb
end Go.Proofs
end
namespace Go.Proofs.YtjdfoonhnmpkdaaGreatDoor
open Go
end Go.Proofs.YtjdfoonhnmpkdaaGreatDoor
section
open Go
namespace Go.Proofs
open Go.Shelf
def Tryz.zt:Go.Shelf.Ren:=⟨fun|171=>62|243=>104|246=>148|283=>171|284=>172|285=>173|286=>174|129=>116|317=>190|318=>191|319=>192|320=>193|337=>199|338=>200|n=>n,fun|3=>3|9=>9|2=>2|4=>4|171=>214|0=>0|53=>143|37=>173|5=>5|173=>216|212=>235|51=>141|20=>20|213=>236|46=>108|232=>241|233=>242|n=>n,fun|17=>2|18=>3|19=>4|n=>n⟩
theorem Tryz.Jf:Go.Proofs.LaysM.n171 Tryz.prog Tryz.zt:={
 mixed:=by kernel_rfl
 f129:=Tryz.func116.trans (congrArg some (by kernel_rfl))
 f171:=Tryz.func62.trans (congrArg some (by kernel_rfl))
 f243:=Tryz.func104.trans (congrArg some (by kernel_rfl))
 f246:=Tryz.func148.trans (congrArg some (by kernel_rfl))
 f283:=Tryz.func171.trans (congrArg some (by kernel_rfl))
 f284:=Tryz.func172.trans (congrArg some (by kernel_rfl))
 f285:=Tryz.func173.trans (congrArg some (by kernel_rfl))
 f286:=Tryz.func174.trans (congrArg some (by kernel_rfl))
 f317:=Tryz.func190.trans (congrArg some (by kernel_rfl))
 f318:=Tryz.func191.trans (congrArg some (by kernel_rfl))
 f319:=Tryz.func192.trans (congrArg some (by kernel_rfl))
 f320:=Tryz.func193.trans (congrArg some (by kernel_rfl))
 f337:=Tryz.func199.trans (congrArg some (by kernel_rfl))
 f338:=Tryz.func200.trans (congrArg some (by kernel_rfl))
 t0:=Tryz.underlying0
 a0:=Tryz.isAgg0
 z0:=Tryz.sizeOf0
 v0:=Tryz.zeroValue0
 t2:=Tryz.underlying2
 a2:=Tryz.isAgg2
 z2:=Tryz.sizeOf2
 v2:=Tryz.zeroValue2
 t3:=Tryz.underlying3
 a3:=Tryz.isAgg3
 z3:=Tryz.sizeOf3
 v3:=Tryz.zeroValue3
 t4:=Tryz.underlying4
 a4:=Tryz.isAgg4
 z4:=Tryz.sizeOf4
 v4:=Tryz.zeroValue4
 t5:=Tryz.underlying5
 a5:=Tryz.isAgg5
 z5:=Tryz.sizeOf5
 v5:=Tryz.zeroValue5
 t9:=Tryz.underlying9
 a9:=Tryz.isAgg9
 z9:=Tryz.sizeOf9
 v9:=Tryz.zeroValue9
 t20:=Tryz.underlying20
 a20:=Tryz.isAgg20
 z20:=Tryz.sizeOf20
 v20:=Tryz.zeroValue20
 t37:=Tryz.underlying173
 a37:=Tryz.isAgg173
 z37:=Tryz.sizeOf173
 v37:=Tryz.zeroValue173
 t46:=Tryz.underlying108
 a46:=Tryz.isAgg108
 z46:=Tryz.sizeOf108
 v46:=Tryz.zeroValue108
 t51:=Tryz.underlying141
 a51:=Tryz.isAgg141
 z51:=Tryz.sizeOf141
 v51:=Tryz.zeroValue141
 t53:=Tryz.underlying143
 a53:=Tryz.isAgg143
 z53:=Tryz.sizeOf143
 v53:=Tryz.zeroValue143
 t171:=Tryz.underlying214
 a171:=Tryz.isAgg214
 z171:=Tryz.sizeOf214
 v171:=Tryz.zeroValue214
 t173:=Tryz.underlying216
 a173:=Tryz.isAgg216
 z173:=Tryz.sizeOf216
 v173:=Tryz.zeroValue216
 t212:=Tryz.underlying235
 a212:=Tryz.isAgg235
 z212:=Tryz.sizeOf235
 v212:=Tryz.zeroValue235
 t213:=Tryz.underlying236
 a213:=Tryz.isAgg236
 z213:=Tryz.sizeOf236
 t232:=Tryz.underlying241
 a232:=Tryz.isAgg241
 z232:=Tryz.sizeOf241
 v232:=Tryz.zeroValue241
 t233:=Tryz.underlying242
 a233:=Tryz.isAgg242
 z233:=Tryz.sizeOf242
 v233:=Tryz.zeroValue242
 g17:=by kernel_rfl
 g18:=by kernel_rfl
 g19:=by kernel_rfl
 i0:=by kernel_rfl
 i2:=by kernel_rfl
 i3:=by kernel_rfl
 i4:=by kernel_rfl
 i5:=by kernel_rfl
 i9:=by kernel_rfl
 i20:=by kernel_rfl
 i37:=by kernel_rfl
 i46:=by kernel_rfl
 i51:=by kernel_rfl
 i53:=by kernel_rfl
 i171:=by kernel_rfl
 i173:=by kernel_rfl
 i212:=by kernel_rfl
 i232:=by kernel_rfl
 i233:=by kernel_rfl
 m17:=by kernel_rfl
 m18:=by kernel_rfl
 m19:=by kernel_rfl}
open Go.RowKit Go.Sort Go.Lib in
theorem Tryz.strconv_Itoa (n:Int) (h0: -9223372036854775808≤n) (h1:n≤9223372036854775807) (w:World) (htab:Lib.TabIs Tryz.prog w "internal/strconv.uint64pow10" .u64 Lib.pow10Tab):
 Calls Tryz.prog 62 #[.int .i64 n] w fun e w'=>e= .returned (.string ⟨(Lib.itoa n).toArray⟩)∧∃ k os,w'=grow (w.drewN k) os:=Any.strconv_Itoa Tryz.Jf n h0 h1 w htab
open Go.RowKit Go.Sort Go.Lib in
theorem Tryz.strconv_Atoi_ok (s:ByteArray) (hmax:s.size≤9223372036854775806) (v:Int) (h:Lib.atoiAll s.data.toList= .ok v) (w:World):
 Calls Tryz.prog 61 #[.string s] w fun e w'=>e= .returned (.tuple #[.int .i64 v,.nilIface])∧(w'=w∨∃ t,w'=Lib.bytesWorld w 5 t):=Any.strconv_Atoi_ok Tryz.uV s hmax v h w
open Go.RowKit Go.Sort Go.Lib in
theorem Tryz.rS (s:ByteArray) (hlim:s.size≤281474976710656) (h:Lib.atoiAll s.data.toList=Lib.atoiAll []) (ev:Value) (w:World) (hv:w.cell? ⟨0,0,none⟩=some ev) (hev:ev= .nilIface∨∃ te pe,ev= .iface te pe):
 Calls Tryz.prog 61 #[.string s] w fun e w'=>∃ N,e= .returned (.tuple #[.int .i64 0,.iface 176 (.pointer (some ⟨N,0,none⟩))])∧w.heap.size≤N∧w'.heap[N]? =some (.cells #[.string ⟨#[65,116,111,105]⟩,.string s,ev] 212 (0,0))∧Below w.heap.size w w':=Any.strconv_Atoi_syntax Tryz.uV s hlim h ev w hv hev
open Go.RowKit Go.Sort Go.Lib in
theorem Tryz.strconv_Atoi_range (s:ByteArray) (hlim:s.size≤281474976710656) (h:Lib.atoiAll s.data.toList= .range) (ev:Value) (w:World) (hv:w.cell? ⟨1,0,none⟩=some ev) (hev:ev= .nilIface∨∃ te pe,ev= .iface te pe):
 Calls Tryz.prog 61 #[.string s] w fun e w'=>∃ N,e= .returned (.tuple #[.int .i64 (Lib.atoiSat s.data.toList),.iface 176 (.pointer (some ⟨N,0,none⟩))])∧w.heap.size≤N∧w'.heap[N]? =some (.cells #[.string ⟨#[65,116,111,105]⟩,.string s,ev] 212 (0,0))∧Below w.heap.size w w':=Any.strconv_Atoi_range Tryz.uV s hlim h ev w hv hev
end Go.Proofs
end
namespace Go.Proofs.YtjdfoonhnmpkdaaGreatDoor
open Go
structure lZ (C0:Cx):Prop where
 h:C0.H=[]
 es:∃ ev,C0.w.cell? ⟨0,0,none⟩=some ev∧(ev= .nilIface∨∃ te pe,ev= .iface te pe)
 er:∃ ev,C0.w.cell? ⟨1,0,none⟩=some ev∧(ev= .nilIface∨∃ te pe,ev= .iface te pe)
 Sg:Lib.TabIs Tryz.prog C0.w "internal/strconv.uint64pow10" .u64 Lib.pow10Tab
theorem CF {C0 c:Cx} (h0:C0.H=[]) (hg:Grow C0 c) {k:Nat} {v:Value} (h:C0.w.cell? ⟨k,0,none⟩=some v):c.w.cell? ⟨k,0,none⟩=some v:=by
 have hlt:k<C0.w.heap.size:=Lib.lt_of_cell h
 have hold:=hg.Fz k hlt (fun⟨id,o,⟨B,hB,_⟩,_⟩=>by rw[h0] at hB;cases hB)
 rw[← h]
 unfold World.cell?
 rw[hold]
theorem MN {C0 c:Cx} (h0:C0.H=[]) (hg:Grow C0 c) {n:String} {k:IntKind} {zs:List Int} (h:Lib.TabIs Tryz.prog C0.w n k zs):Lib.TabIs Tryz.prog c.w n k zs:=by
 unfold Lib.TabIs World.var? at h ⊢
 cases hg2:Tryz.prog.globalNamed n with
 |none=>rw[hg2] at h;cases h
 |some g=>
  rw[hg2] at h
  simp only[Option.bind_some] at h ⊢
  split at h
  ·rename_i cs T fr hc
   have hlt:g<C0.w.heap.size:=(Array.getElem?_eq_some_iff.1 hc).1
   have hold:=hg.Fz g hlt (fun⟨id,o,⟨B,hB,_⟩,_⟩=>by rw[h0] at hB;cases hB)
   rw[hold,hc]
   exact h
  ·cases h
theorem aq.Ct {P:Program} {G:Gl} {f:FuncId} {args:List SV} {H:List av} {R:SV→Prop} (hf:∃ fn,P.funcs[f]? =some fn∧(fn.name== "runtime.NumGoroutine")=false∧fn.body.isNone=false)
 (hc:∀ (c:Cx) vs,CY G c→ax c args vs→Calls P f vs.toArray c.w fun e w'=>∃ v x,e= .returned v∧(∀ c,aB c x v)∧R x∧Go.RowKit.Below c.w.heap.size c.w w'):
 aq P G f args H (fun r H'=>H'=H∧R r):=by
 refine⟨hf,fun c vs e1 hh hG hv=>?_⟩
 subst e1
 refine(callsIn_wide (n:=0)).2 ?_
 refine(hc c vs hG hv).mono ?_
 rintro e w' ⟨v,x,rfl,hx,hr,hb⟩
 obtain⟨g1,g2⟩:=Cx.world hh (w':=w') (fun b h=>hb.block b h) hb.size hb.os hb.tape hb.output
 exact⟨v,x,{ c with w:=w'},rfl,rfl,⟨rfl,hr⟩,g2,hx _,g1⟩
theorem pr:∀ (k u:Nat),u<10 ^ (k+1)→Lib.nDigits u≤k+1
 |0,u,h=>by rw[Lib.nDigits_small (by simpa using h)];exact Nat.le_refl _
 |k+1,u,h=>by
  by_cases hu:u<10
  ·rw[Lib.nDigits_small hu];omega
  ·rw[Lib.nDigits_big hu]
   have:=pr k (u / 10) (by rw[Nat.pow_succ] at h;omega)
   omega
theorem uS (n:Int) (h0: -9223372036854775808≤n) (h1:n≤9223372036854775807):(Lib.itoa n).length≤20:=by
 unfold Lib.itoa
 split
 ·rw[List.length_cons,Lib.decDigits_length]
  have:=pr 18 n.natAbs (by omega)
  omega
 ·rw[Lib.decDigits_length]
  have:=pr 18 n.toNat (by omega)
  omega
theorem E3 (G:Gl) (C0:Cx) (hb:G.base=some C0) (hl:lZ C0) (n:Int) (h0: -9223372036854775808≤n) (h1:n≤9223372036854775807) (H:List av):
 aq Tryz.prog G 62 [.int .i64 n] H (fun r H'=>H'=H∧r= .str (Lib.itoa n)):=by
 refine aq.Ct ⟨_,Tryz.func62,by decide,rfl⟩ fun c vs hg hv=>?_
 obtain⟨v,us,hv1,hv2,rfl⟩:=ax.bg.1 hv
 rw[ax.dm.1 hv2]
 simp only[aB] at hv1
 obtain⟨rfl,_⟩:=hv1
 refine(Tryz.strconv_Itoa n h0 h1 c.w (MN hl.h (hg.2 C0 hb) hl.Sg)).mono ?_
 rintro e w' ⟨rfl,k,os,rfl⟩
 refine⟨_,.str (Lib.itoa n),rfl,fun c=>?_,rfl,Go.Lib.below_grow _ _ (Nat.le_refl _) k os⟩
 simp only[aB]
 exact⟨trivial,by have:=uS n h0 h1;unfold maxLen;omega⟩
def ja (s:aD):Int×Bool:=match Lib.atoiAll s with
 | .ok v=>(v,true)
 | .range=>(Lib.atoiSat s,false)
 |_=>(0,false)
theorem EB (G:Gl) (C0:Cx) (hb:G.base=some C0) (hl:lZ C0) (s:aD) (hs:s.length<4294967296) (H:List av):
 aq Tryz.prog G 61 [.str s] H (fun r H'=>H'=H∧r= .tuple [.int .i64 (ja s).1,.oI (ja s).2]):=by
 refine aq.Ct ⟨_,Tryz.func61,by decide,rfl⟩ fun c vs hg hv=>?_
 obtain⟨v,us,hv1,hv2,rfl⟩:=ax.bg.1 hv
 rw[ax.dm.1 hv2]
 simp only[aB] at hv1
 obtain⟨rfl,_⟩:=hv1
 have hsz:(⟨⟨s⟩⟩:ByteArray).size=s.length:=rfl
 have tell:∀ (c:Cx) (n:Int) (z:Bool) (v:Value),(IntKind.i64.min≤n∧n≤IntKind.i64.max)→aB c (.oI z) v→v.oneCell'=true→aB c (.tuple [.int .i64 n,.oI z]) (.tuple #[.int .i64 n,v]):=fun c n z v hn hz _=>by
  simp only[aB]
  exact⟨[.int .i64 n,v],ax.bG (by simp only[aB];exact⟨trivial,hn⟩) (ax.bG hz ax.bQ),rfl⟩
 rcases ha:Lib.atoiAll s with n|_|_
 ·obtain⟨vb0,vb1⟩:=Lib.atoiAll_bounds ha
  refine(Tryz.strconv_Atoi_ok ⟨⟨s⟩⟩ (by rw[hsz];omega) n ha c.w).mono ?_
  rintro e w' ⟨rfl,hw⟩
  refine⟨_,.tuple [.int .i64 n,.oI true],rfl,fun c=>tell c n true _ ⟨vb0,vb1⟩ (by simp only[aB]) rfl,by simp only[ja,ha],?_⟩
  rcases hw with rfl|⟨t,rfl⟩
  ·exact Go.RowKit.Below.refl _ _
  ·exact Lib.bytesWorld_below _ _ _
 ·obtain⟨ev,h1,h2⟩:=hl.es
  refine(Tryz.rS ⟨⟨s⟩⟩ (by rw[hsz];omega) ha ev c.w (CF hl.h (hg.2 C0 hb) h1) h2).mono ?_
  rintro e w' ⟨N,rfl,_,_,hbw⟩
  exact⟨_,.tuple [.int .i64 0,.oI false],rfl,fun c=>tell c 0 false _ (by decide) (by simp only[aB];exact⟨_,_,rfl⟩) rfl,by simp only[ja,ha],hbw⟩
 ·obtain⟨ev,h1,h2⟩:=hl.er
  obtain⟨sb0,sb1⟩:=Lib.atoiSat_bounds s
  refine(Tryz.strconv_Atoi_range ⟨⟨s⟩⟩ (by rw[hsz];omega) ha ev c.w (CF hl.h (hg.2 C0 hb) h1) h2).mono ?_
  rintro e w' ⟨N,rfl,_,_,hbw⟩
  exact⟨_,.tuple [.int .i64 (Lib.atoiSat s),.oI false],rfl,fun c=>tell c _ false _ ⟨sb0,sb1⟩ (by simp only[aB];exact⟨_,_,rfl⟩) rfl,by simp only[ja,ha],hbw⟩
section
open Go Go.ChangeShapes Go.WideShapes Go.RowKit
theorem RQ:Tryz.prog.globalNamed "strconv.ErrRange" =some 1:=by kernel_rfl
theorem LJ:(Tryz.prog.globals[1]?).map (·.type)=some 96:=by kernel_rfl
theorem R9:Tryz.prog.globalNamed "internal/strconv.uint64pow10" =some 2:=by kernel_rfl
theorem LM:(Tryz.prog.globals[2]?).map (·.type)=some 235:=by kernel_rfl
theorem HT:Tryz.prog.cellsOf 143=1:=by kernel_rfl
theorem HU:Tryz.prog.cellsOf 235=20:=by kernel_rfl
theorem Qq:(Rows.laid_internal_strconv_uint64pow10:DataW Unit)=Lib.tabData .u64 Lib.pow10Tab:=by kernel_rfl
theorem sC {W:World} (h:laidMetH Tryz.prog [("math/bits.deBruijn32tab",Rows.laid_math_bits_deBruijn32tab),("math/bits.deBruijn64tab",Rows.laid_math_bits_deBruijn64tab),("internal/strconv.uint64pow10",Rows.laid_internal_strconv_uint64pow10),("strconv.ErrRange",Rows.laid_strconv_ErrRange),("strconv.ErrSyntax",Rows.laid_strconv_ErrSyntax)] W):lZ (vt W):=by
 have h3:laidMet Tryz.prog [("internal/strconv.uint64pow10",Rows.laid_internal_strconv_uint64pow10),("strconv.ErrRange",Rows.laid_strconv_ErrRange),("strconv.ErrSyntax",Rows.laid_strconv_ErrSyntax)] W:=laidMet.tail (laidMet.tail h)
 have h4:laidMet Tryz.prog [("strconv.ErrRange",Rows.laid_strconv_ErrRange),("strconv.ErrSyntax",Rows.laid_strconv_ErrSyntax)] W:=laidMet.tail h3
 refine⟨rfl,(Pm h).2,?_,?_⟩
 ·obtain⟨a0,s0,hv0,-,-,-⟩:=laid_sentinel h4 RQ LJ Tryz.underlying96 Kc Tryz.underlying231 Tryz.underlying233 rfl rfl Tryz.underlying9 AK HV
  exact⟨_,(by have h0:=World.var?_cell RQ hv0 0;show W.cell? _=_;simpa using h0),.inr ⟨_,_,rfl⟩⟩
 ·rw[Qq] at h3
  exact Lib.tabIs_of_head R9 LM Tryz.underlying235 Tryz.underlying143 HT HU h3
theorem yG (W:World):dW (GB W) 0:=fun C1 e=>by cases e;exact Nat.le_refl _
end
section
open Go Go.ChangeShapes Go.WideShapes Go.RowKit
section
variable {H:Type} {enc:TypeId×Value→H} {W:World} {sp:Nat→Bool}
theorem J6 (n:Nat):Rd enc Tryz.prog W sp n 23 (fun l:List Bd=>[.list 9 (ad l)]) (fun l=>1+oG l):=by
 have h:=jx (enc:=enc) (P:=Tryz.prog) (W:=W) (sp:=sp) (t:=23) (e:=53) true (f:=Bd.cells) (wt:=Bd.bw) (n:=9) (N:=n) (by kernel_rfl) (by kernel_rfl) (by kernel_rfl) (by omega) (.inl rfl) (fun m _=>(MI m).2.1)
 intro cs x hx
 obtain⟨a,h1,h2,h3⟩:=h cs x hx
 have e:(a.map fun x=>bx true x.cells)=ad a:=by rw[az];rfl
 have h1:Good W [SV.list 9 (a.map fun x=>bx true x.cells)] cs:=h1
 rw[e] at h1
 exact⟨a,h1,h2,by show 1+oG a≤_;rw[kE];exact h3⟩
end
end
def idxFrom:Nat→List (List UInt8)→List UInt8→Int
 |_,[],_=> -1
 |i,x::r,v=>if v=x then i else idxFrom (i+1) r v
theorem DK (G:Gl) (l:List (List UInt8)) (v:List UInt8) (H:List av) (hl:l.length<4611686018427387904):
 aq Tryz.prog G 97 [.list 1 (l.map .str),.str v] H (fun r H'=>H'=H∧r= .int .i64 (idxFrom 0 l v)):=by
 refine bP [] Tryz.func97 Tryz.ntmps97 fun C R' hR hC hcl hB hC' X=>?_
 (refine bK ?_)
 ·refine aA (fun i:Nat=>[(0,.list 1 (l.map .str)),(1,.str v),(4,.int .i64 0),(7,.int .i64 l.length),(8,.int .i64 i)]) (fun _=>H) (fun i=>l.length - i) (fun i=>i≤l.length∧idxFrom i (l.drop i) v=idxFrom 0 l v) 0 (by simp) (Wk.sub ?_) ?_
  ·simp (decide:=true) [aW,look]
  intro K i hi hK
  (refine bK ?_;with_reducible repeat' first|exact trivial|(apply aJ.mk<;>intro hb)|apply bN.mk)
  ·have hi':i<l.length:=by omega
   rw[List.drop_eq_getElem_cons hi',idxFrom,if_pos hb] at hi
   exact Fin.out hR ⟨rfl,by rw[← hi.2];rfl⟩
  ·have hi':i<l.length:=by omega
   rw[List.drop_eq_getElem_cons hi',idxFrom,if_neg hb] at hi
   exact hK _ _ (i+1) (by omega) ⟨hi',hi.2⟩ (Wk.sub (by simp[aW,look]))
  ·rw[List.drop_of_length_le (by omega),idxFrom] at hi
   exact Fin.out hR ⟨rfl,by rw[← hi.2];rfl⟩
theorem uK:∀ (l:List aD) (v:aD) (i:Nat),(idxFrom i l v= -1∧v∉l)∨((i:Int)≤idxFrom i l v∧v∈l)
 |[],v,i=> .inl ⟨rfl,by simp⟩
 |x::r,v,i=>by
  rw[idxFrom]
  split
  ·rename_i h;exact .inr ⟨Int.le_refl _,by simp[h]⟩
  ·rename_i h
   rcases uK r v (i+1) with h1|h1
   ·exact .inl ⟨h1.1,by simp[h,h1.2]⟩
   ·exact .inr ⟨by omega,by simp[h1.2]⟩
theorem gR (G:Gl) (l:List aD) (v:aD) (H:List av) (hl:l.length<4611686018427387904):
 aq Tryz.prog G 54 [.list 1 (l.map .str),.str v] H (fun r H'=>H'=H∧r= .bool (decide (v∈l))):=by
 refine bP [] Tryz.func54 Tryz.ntmps54 fun C R' hR hC hcl hB hC' X=>?_
 (refine bK ?_)
 refine gS (xs:=[.list 1 (l.map .str),.str v]) (by exact cw) rfl (DK G l v H hl) ?_
 rintro r H' ⟨rfl,rfl⟩
 (refine bK ?_)
 refine Fin.out hR ⟨rfl,?_⟩
 rcases uK l v 0 with h|h
 ·simp[h.1,h.2,aC]
 ·simp only[h.2,decide_true,SV.bool.injEq,decide_eq_true_eq,aC];omega
def tl (s:aD) (n:Int) (b:Bool):SV:= .agg [.str s,.int .i64 n,.bool b]
def cA (k:Int) (l:List aD) (binds:List Bd):List aD:=if k=3 then l else if k=5 then binds.map Bd.name else []
mutual
def gU (s:aD):Ex→Nat
 | .mk k nm _ _ l ae binds alts=>if k=1 then (if nm=s then 1 else 0) else if s∈cA k l binds then 0 else qI s ae+qH s binds+mZ s (k=6∧nm=s) alts
def qI (s:aD):List Ex→Nat
 |[]=>0
 |e::r=>gU s e+qI s r
def Cr (s:aD):Bd→Nat
 | .mk _ e=>gU s e
def qH (s:aD):List Bd→Nat
 |[]=>0
 |b::r=>Cr s b+qH s r
def Cp (s:aD) (c:Prop) [Decidable c]:Al→Nat
 | .mk _ _ _ l e=>if s∈l∨c then 0 else gU s e
def mZ (s:aD) (c:Prop) [Decidable c]:List Al→Nat
 |[]=>0
 |a::r=>Cp s c a+mZ s c r
end
mutual
def ma (s:aD) (b:Bool):Ex→Bool
 | .mk k nm _ _ l ae binds alts=>if k=1 then (b&&decide (nm=s)) else if s∈cA k l binds then false else sB s (b||decide (k=3)) ae||sA s (b||decide (k=3)) binds||mU s (b||decide (k=3)) (k=6∧nm=s) alts
def sB (s:aD) (b:Bool):List Ex→Bool
 |[]=>false
 |e::r=>ma s b e||sB s b r
def DM (s:aD) (b:Bool):Bd→Bool
 | .mk _ e=>ma s b e
def sA (s:aD) (b:Bool):List Bd→Bool
 |[]=>false
 |x::r=>DM s b x||sA s b r
def DL (s:aD) (b:Bool) (c:Prop) [Decidable c]:Al→Bool
 | .mk _ _ _ l e=>if s∈l∨c then false else ma s b e
def mU (s:aD) (b:Bool) (c:Prop) [Decidable c]:List Al→Bool
 |[]=>false
 |a::r=>DL s b c a||mU s b c r
end
theorem Bd.JA (b:Bd):Bd.mk b.name b.e=b:=by cases b;rfl
theorem Al.JA (a:Al):Al.mk a.kind a.name a.n a.names a.body=a:=by cases a;rfl
theorem Cs (s:aD) (b:Bd):Cr s b=gU s b.e:=by cases b;rw[Cr];rfl
theorem Cq (s:aD) (c:Prop) [Decidable c] (a:Al):Cp s c a=if s∈a.names∨c then 0 else gU s a.body:=by cases a;rw[Cp];rfl
theorem Gy (s:aD) (q:Bool) (b:Bd):DM s q b=ma s q b.e:=by cases b;rw[DM];rfl
theorem Gx (s:aD) (q:Bool) (c:Prop) [Decidable c] (a:Al):DL s q c a=if s∈a.names∨c then false else ma s q a.body:=by cases a;rw[DL];rfl
mutual
theorem rK (s:aD):∀ e:Ex,gU s e≤e.wt
 | .mk k nm n o l ae binds alts=>by
  have h1:=zO s ae
  have h2:=zN s binds
  have h3:=Fw s (k=6∧nm=s) alts
  simp only[gU,Ex.wt]
  split
  ·split<;>omega
  ·split<;>omega
theorem zO (s:aD):∀ l:List Ex,qI s l≤cn l
 |[]=>Nat.le_refl _
 |e::r=>by have h1:=rK s e;have h2:=zO s r;simp only[qI,cn];omega
theorem JK (s:aD):∀ b:Bd,Cr s b≤b.wt
 | .mk n e=>by have h1:=rK s e;simp only[Cr,Bd.wt];omega
theorem zN (s:aD):∀ l:List Bd,qH s l≤aV l
 |[]=>Nat.le_refl _
 |e::r=>by have h1:=JK s e;have h2:=zN s r;simp only[qH,aV];omega
theorem JJ (s:aD) (c:Prop) [Decidable c]:∀ b:Al,Cp s c b≤b.wt
 | .mk k nm n l e=>by have h1:=rK s e;simp only[Cp,Al.wt];split<;>omega
theorem Fw (s:aD) (c:Prop) [Decidable c]:∀ l:List Al,mZ s c l≤cf l
 |[]=>Nat.le_refl _
 |e::r=>by have h1:=JJ s c e;have h2:=Fw s c r;simp only[mZ,cf];omega
end
theorem Al.jH (a:Al):a.names.length≤a.wt:=by cases a;simp only[Al.wt,Al.names];have:=eD ‹_›;omega

theorem fU (x:Ex):ag [x]=[.agg x.cells]:=by simp[aL,Ex.sv]
theorem Al.Ch {kd:Int} {nm:aD} {nn op:Int} {names:List aD} {ae:List Ex} {binds:List Bd} {alts:List Al} {i:Nat} (h:i<alts.length):alts[i].names.length≤(Ex.mk kd nm nn op names ae binds alts).wt:=by
 have h1:=dZ (List.getElem_mem h)
 have h2:=Al.jH alts[i]
 simp only[Ex.wt]
 omega
theorem gz (G:Gl) (hG:ah G) (l:List aD) (H:List av) (hl:l.length<1099511627776):aq Tryz.prog G 43 [.list 1 (l.map .str)] H (fun r H'=>H'=H++[.cells 0 1 (l.map .str)]∧r= .sl H.length 0 0 l.length):=by
 refine bP [2,5] Tryz.func43 Tryz.ntmps43 fun C R' hR hC hcl hB hC' X=>?_
 (refine bK ?_;with_reducible repeat' first|exact trivial|(apply aJ.mk<;>intro hb)|apply bN.mk)
 ·obtain rfl:l=[]:=List.length_eq_zero_iff.1 hb
  exact gD [(H.length+1,0)] (.sl H.length 0 0 0) [.cells 0 1 []] hR hC' hcl ⟨rfl,rfl⟩
 ·exact gD [(H.length+1,0)] (.sl H.length 0 0 l.length) [.cells 0 1 (l.map .str)] hR hC' hcl ⟨rfl,rfl⟩
def bM:Ex→List (Ex×List aD)
 | .mk kd nm _ _ names ae binds alts=>ae.map (fun x=>(x,cA kd names binds))++(binds.map (fun b=>(b.e,cA kd names binds))++alts.map (fun a=>(a.body,a.names++if kd=6 then [nm] else [])))
theorem G1 {kd:Int} {nm:aD} {nn op:Int} {names:List aD} {ae:List Ex} {binds:List Bd} {alts:List Al} {i:Nat} (h:i<ae.length):(bM (.mk kd nm nn op names ae binds alts))[i]? =some (ae[i],cA kd names binds):=by
 simp only[bM]
 rw[List.getElem?_append_left (by simpa using h),List.getElem?_map,List.getElem?_eq_getElem h];rfl
theorem D8 {kd:Int} {nm:aD} {nn op:Int} {names:List aD} {ae:List Ex} {binds:List Bd} {alts:List Al} {i:Nat} (h:i<binds.length):(bM (.mk kd nm nn op names ae binds alts))[ae.length+i]? =some (binds[i].e,cA kd names binds):=by
 simp only[bM]
 rw[List.getElem?_append_right (by simp),List.length_map,Nat.add_sub_cancel_left,List.getElem?_append_left (by simpa using h),List.getElem?_map,List.getElem?_eq_getElem h];rfl
theorem GZ {kd:Int} {nm:aD} {nn op:Int} {names:List aD} {ae:List Ex} {binds:List Bd} {alts:List Al} {i:Nat} (h:i<alts.length):(bM (.mk kd nm nn op names ae binds alts))[ae.length+binds.length+i]? =some (alts[i].body,alts[i].names++if kd=6 then [nm] else []):=by
 simp only[bM]
 rw[List.getElem?_append_right (by simp;omega),List.length_map,show ae.length+binds.length+i - ae.length=binds.length+i by omega,List.getElem?_append_right (by simp),List.length_map,Nat.add_sub_cancel_left,List.getElem?_map,List.getElem?_eq_getElem h];rfl
theorem G3 (G:Gl) (hG:ah G) (e:Ex) (hw:e.wt<549755813888) (fv:SV) (Hs:Nat→List av) (n0:Nat) (hlen:∀ i,(Hs i).length=n0) (hfu:fv.under n0=true) (hcls:closed (Hs 0)→∀ i,closed (Hs i))
 (hy:∀ i p X,(bM e)[i]? =some p→aY Tryz.prog G fv [p.1.sv,.list 1 (p.2.map .str)] (Hs i++X) (fun r H'=>H'=Hs (i+1)++X)):
 aq Tryz.prog G 78 [e.sv,fv] (Hs 0) (fun r H'=>H'=Hs (bM e).length):=by
 obtain⟨kd,nm,nn,op,names,ae,binds,alts⟩:=e
 have hle:=Ex.dn kd nm nn op names ae binds alts
 have hpl:(bM (Ex.mk kd nm nn op names ae binds alts)).length=ae.length+binds.length+alts.length:=by simp[bM];omega
 refine bP [4] Tryz.func78 Tryz.ntmps78 fun C R' hR hC hcl hB hC' X=>?_
 have hcl:=hcls hcl
 have hC':=hC'.trans (hlen 0)
 have X:=Px Hs n0 hlen
 (refine CD ?_)
 refine fA (fun _:Unit=>[(1,fv),(2,.ptr n0 0 0 0),(4,.list 1 ((cA kd names binds).map .str))]) (fun _=>Hs 0++[.cells 0 8 [.agg [.int .i64 kd,.str nm,.int .i64 nn,.int .i64 op,.list 1 (names.map .str),.list 8 (ag ae),.list 9 (ad binds),.list 12 (af alts)]]]) (fun _=>True) (fun K hK=>?_) (fun _ _=>?_)
 ·(refine bK ?_;with_reducible repeat' first|exact trivial|(apply aJ.mk<;>intro hb)|apply bN.mk)
  ·refine hK _ _ () trivial ?_
   simp only[cA,if_pos hb]
   exact bI (n0:=n0) [(n0,0)] hG hB hC' (hcl 0)
  ·refine aA (fun i:Nat=>[(1,fv),(2,.ptr n0 0 0 0),(23,.list 9 (ad binds)),(24,.int .i64 binds.length),(25,.int .i64 i),(4,.sl (n0+1) 0 0 i)])
    (fun i=>Hs 0++[.cells 0 8 [.agg [.int .i64 kd,.str nm,.int .i64 nn,.int .i64 op,.list 1 (names.map .str),.list 8 (ag ae),.list 9 (ad binds),.list 12 (af alts)]],.cells 0 1 ((binds.take i).map fun b=> .str b.name)]) (fun i=>binds.length - i) (fun i=>i≤binds.length) 0 (Nat.zero_le _) ?_ ?_
   ·exact bI (n0:=n0) [(n0,0),(n0+1,0)] hG hB hC' (hcl 0)
   ·intro K2 i hi hK2
    (refine bK ?_;with_reducible repeat' first|exact trivial|(apply aJ.mk<;>intro hb)|apply bN.mk)
    ·refine hK2 _ _ (i+1) (by omega) (by omega) ?_
     simp only[List.take_succ_eq_append_getElem (show i<binds.length by omega),List.map_append,List.map_cons,List.map_nil]
     exact bI (n0:=n0) [(n0,0),(n0+1,0)] hG hB hC' (hcl 0)
    ·refine hK _ _ () trivial ?_
     obtain rfl:i=binds.length:=by omega
     have e1:cA kd names binds=binds.map Bd.name:=by simp[cA,‹kd=5›]
     simp only[e1,List.take_length,List.map_map]
     exact bI (n0:=n0) [(n0,0)] hG hB hC' (hcl 0)
  ·refine hK _ _ () trivial ?_
   simp only[cA,if_neg ‹¬ kd=3›,if_neg ‹¬ kd=5›,List.map_nil]
   exact bI (n0:=n0) [(n0,0)] hG hB hC' (hcl 0)
 ·(refine CD ?_)
  refine fA (fun _:Unit=>[(1,fv),(2,.ptr n0 0 0 0),(4,.list 1 ((cA kd names binds).map .str))]) (fun _=>Hs ae.length++[.cells 0 8 [.agg [.int .i64 kd,.str nm,.int .i64 nn,.int .i64 op,.list 1 (names.map .str),.list 8 (ag ae),.list 9 (ad binds),.list 12 (af alts)]]]) (fun _=>True) (fun K hK=>?_) (fun _ _=>?_)
  ·(refine bK ?_)
   refine aA (fun i:Nat=>[(1,fv),(2,.ptr n0 0 0 0),(4,.list 1 ((cA kd names binds).map .str)),(36,.list 8 (ag ae)),(37,.int .i64 ae.length),(38,.int .i64 i)])
    (fun i=>Hs i++[.cells 0 8 [.agg [.int .i64 kd,.str nm,.int .i64 nn,.int .i64 op,.list 1 (names.map .str),.list 8 (ag ae),.list 9 (ad binds),.list 12 (af alts)]]]) (fun i=>ae.length - i) (fun i=>i≤ae.length) 0 (Nat.zero_le _) ?_ ?_
   ·exact bI (n0:=n0) [(n0,0)] hG hB hC' (hcl 0)
   ·intro K2 i hi hK2
    (refine bK ?_;with_reducible repeat' first|exact trivial|(apply aJ.mk<;>intro hb)|apply bN.mk)
    ·refine eS (hy i _ _ (G1 (by omega))) ?_
     rintro r H' rfl
     (refine bK ?_)
     refine hK2 _ _ (i+1) (by omega) (by omega) ?_
     exact bI (n0:=n0) [(n0,0)] hG hB hC' (hcl (i+1))
    ·obtain rfl:i=ae.length:=by omega
     refine hK _ _ () trivial ?_
     exact bI (n0:=n0) [(n0,0)] hG hB hC' (hcl _)
  ·(refine CD ?_)
   refine fA (fun _:Unit=>[(1,fv),(2,.ptr n0 0 0 0),(4,.list 1 ((cA kd names binds).map .str))]) (fun _=>Hs (ae.length+binds.length)++[.cells 0 8 [.agg [.int .i64 kd,.str nm,.int .i64 nn,.int .i64 op,.list 1 (names.map .str),.list 8 (ag ae),.list 9 (ad binds),.list 12 (af alts)]]]) (fun _=>True) (fun K hK=>?_) (fun _ _=>?_)
   ·(refine bK ?_)
    refine aA (fun i:Nat=>[(1,fv),(2,.ptr n0 0 0 0),(4,.list 1 ((cA kd names binds).map .str)),(48,.list 9 (ad binds)),(49,.int .i64 binds.length),(50,.int .i64 i)])
     (fun i=>Hs (ae.length+i)++[.cells 0 8 [.agg [.int .i64 kd,.str nm,.int .i64 nn,.int .i64 op,.list 1 (names.map .str),.list 8 (ag ae),.list 9 (ad binds),.list 12 (af alts)]]]) (fun i=>binds.length - i) (fun i=>i≤binds.length) 0 (Nat.zero_le _) ?_ ?_
    ·exact bI (n0:=n0) [(n0,0)] hG hB hC' (hcl _)
    ·intro K2 i hi hK2
     (refine bK ?_;with_reducible repeat' first|exact trivial|(apply aJ.mk<;>intro hb)|apply bN.mk)
     ·refine eS (hy (ae.length+i) _ _ (D8 (by omega))) ?_
      rintro r H' rfl
      (refine bK ?_)
      refine hK2 _ _ (i+1) (by omega) (by omega) ?_
      exact bI (n0:=n0) [(n0,0)] hG hB hC' (hcl _)
     ·obtain rfl:i=binds.length:=by omega
      refine hK _ _ () trivial ?_
      exact bI (n0:=n0) [(n0,0)] hG hB hC' (hcl _)
   ·(refine bK ?_)
    refine aA (fun i:Nat=>[(1,fv),(2,.ptr n0 0 0 0),(61,.list 12 (af alts)),(62,.int .i64 alts.length),(63,.int .i64 i)])
     (fun i=>Hs (ae.length+binds.length+i)++[.cells 0 8 [.agg [.int .i64 kd,.str nm,.int .i64 nn,.int .i64 op,.list 1 (names.map .str),.list 8 (ag ae),.list 9 (ad binds),.list 12 (af alts)]]]) (fun i=>alts.length - i) (fun i=>i≤alts.length) 0 (Nat.zero_le _) ?_ ?_
    ·exact bI (n0:=n0) [(n0,0)] hG hB hC' (hcl _)
    ·intro K2 i hi hK2
     (refine bK ?_;with_reducible repeat' first|exact trivial|(apply aJ.mk<;>intro hb)|apply bN.mk)
     ·have hi':i<alts.length:=by omega
      have hnl:=Al.Ch (kd:=kd) (nm:=nm) (nn:=nn) (op:=op) (names:=names) (ae:=ae) (binds:=binds) hi'
      refine br (gz G hG alts[i].names _ (by omega)) ?_
      rintro r H' ⟨rfl,rfl⟩
      simp only[List.append_assoc,List.cons_append,List.nil_append,List.length_append,List.length_cons,List.length_nil,List.length_set,X,Nat.reduceAdd]
      (refine iu ?_)
      refine fA (fun _:Unit=>[(1,fv),(2,.ptr n0 0 0 0),(61,.list 12 (af alts)),(62,.int .i64 alts.length),(63,.int .i64 i),(12,.ptr (n0+1) 0 0 0),(13,.list 1 ((alts[i].names++if kd=6 then [nm] else []).map .str))])
       (fun _=>Hs (ae.length+binds.length+i)++[.cells 0 8 [.agg [.int .i64 kd,.str nm,.int .i64 nn,.int .i64 op,.list 1 (names.map .str),.list 8 (ag ae),.list 9 (ad binds),.list 12 (af alts)]],.cells 0 12 [.agg (.int .i64 alts[i].kind:: .str alts[i].name:: .int .i64 alts[i].n:: .list 1 (alts[i].names.map .str)::alts[i].body.cells)]]) (fun _=>True) (fun K3 hK3=>?_) (fun _ _=>?_)
      ·(refine bK ?_;with_reducible repeat' first|exact trivial|(apply aJ.mk<;>intro hb)|apply bN.mk)
       ·refine hK3 _ _ () trivial ?_
        simp only[if_pos hb,List.map_append,List.map_cons,List.map_nil,Nat.add_assoc]
        exact bI (n0:=n0) [(n0,0),(n0+1,0)] hG hB hC' (hcl _)
       ·refine hK3 _ _ () trivial ?_
        simp only[if_neg hb,List.append_nil,Nat.add_assoc]
        exact bI (n0:=n0) [(n0,0),(n0+1,0)] hG hB hC' (hcl _)
      ·(refine bK ?_)
       refine eS (hy (ae.length+binds.length+i) _ _ (GZ hi')) ?_
       rintro r H' rfl
       (refine bK ?_)
       refine hK2 _ _ (i+1) (by omega) (by omega) ?_
       exact bI (n0:=n0) [(n0,0)] hG hB hC' (hcl _)
     ·obtain rfl:i=alts.length:=by omega
      refine Fin.aS (n0:=n0) hR (hlen _) hC' (hcl _) (.same _ rfl) ?_
      rw[hpl]
def da:List (aD×Int)→aD→Int
 |[],_=>0
 |(k,n)::r,s=>if s=k then n else da r s
def kU:List (aD×Int)→aD→Int→List (aD×Int)
 |[],s,n=>[(s,n)]
 |(k,m)::r,s,n=>if s=k then (s,n)::r else (k,m)::kU r s n
def kG (l:List (aD×Int)):List (SV×SV):=l.map fun p=>(.str p.1,.int .i64 p.2)
def qM (l:List aD) (s:aD):List aD:=if s∈l then l else l++[s]
def kB (l:List aD):List (SV×SV):=l.map fun s=>(.str s,.bool true)
theorem uw:∀ (l:List (aD×Int)) (s:aD),(bO (kG l) (.str s)).getD (.int .i64 0)= .int .i64 (da l s)
 |[],s=>rfl
 |(k,n)::r,s=>by
  simp only[kG,List.map_cons,bO,SV.ey,da]
  by_cases h:s=k
  ·simp[h]
  ·simp only[beq_eq_false_iff_ne.2 h,h,if_false,Bool.false_eq_true]
   exact uw r s
theorem rL:∀ (l:List (aD×Int)) (s:aD) (n:Int),cN (kG l) (.str s) (.int .i64 n)=kG (kU l s n)
 |[],s,n=>rfl
 |(k,m)::r,s,n=>by
  simp only[kG,List.map_cons,cN,SV.ey,kU]
  by_cases h:s=k
  ·simp[h]
  ·simp only[beq_eq_false_iff_ne.2 h,h,if_false,Bool.false_eq_true]
   rw[show cN (List.map _ r) (.str s) (.int .i64 n)=_ from rL r s n]
   rfl
theorem oh:∀ (l:List aD) (s:aD),cN (kB l) (.str s) (.bool true)=kB (qM l s)
 |[],s=>rfl
 |k::r,s=>by
  simp only[kB,List.map_cons,cN,SV.ey,qM]
  by_cases h:s=k
  ·simp[h]
  ·simp only[beq_eq_false_iff_ne.2 h,if_false,Bool.false_eq_true]
   rw[show cN (List.map _ r) (.str s) (.bool true)=_ from oh r s]
   simp only[kB,qM,List.mem_cons,h,false_or]
   split<;>rfl
theorem pK:∀ (l:List (aD×Int)) (s:aD) (n:Int) (t:aD),da (kU l s n) t=if t=s then n else da l t
 |[],s,n,t=>by simp[kU,da]
 |(k,m)::r,s,n,t=>by
  by_cases h:s=k
  ·subst h
   by_cases ht:t=s<;>simp[kU,da,ht]
  ·simp only[kU,if_neg h,da,pK r s n t]
   by_cases ht:t=k
   ·subst ht
    rw[if_pos rfl,if_neg (fun e=>h e.symm)]
    rw[if_pos rfl]
   ·rw[if_neg ht,if_neg ht]
def mS (b:List (aD×Int)) (l:List aD):List (aD×Int):=l.foldl (fun b n=>kU b n (da b n+1)) b
def wu (b:List (aD×Int)) (l:List aD):List (aD×Int):=l.foldl (fun b n=>kU b n (da b n - 1)) b
theorem nH:∀ (l:List aD) (b:List (aD×Int)) (s:aD),da (mS b l) s=da b s+l.count s
 |[],b,s=>by simp[mS]
 |x::l,b,s=>by
  rw[mS,List.foldl_cons,← mS,nH l,pK,List.count_cons]
  by_cases h:s=x
  ·subst h;simp;omega
  ·have h2:¬ x=s:=fun e=>h e.symm
   simp[h,h2]
theorem sW:∀ (l:List aD) (b:List (aD×Int)) (s:aD),da (wu b l) s=da b s - l.count s
 |[],b,s=>by simp[wu]
 |x::l,b,s=>by
  rw[wu,List.foldl_cons,← wu,sW l,pK,List.count_cons]
  by_cases h:s=x
  ·subst h;simp;omega
  ·have h2:¬ x=s:=fun e=>h e.symm
   simp[h,h2]
theorem I5 (b:List (aD×Int)) (l:List aD) (x:aD):mS b (l++[x])=kU (mS b l) x (da (mS b l) x+1):=by simp[mS]
theorem H7 (b:List (aD×Int)) (l:List aD) (x:aD):wu b (l++[x])=kU (wu b l) x (da (wu b l) x - 1):=by simp[wu]
abbrev BO:=List (aD×Int)×List aD
def jf (f:Ex→BO→BO) (st:BO) (p:Ex×List aD):BO:=(wu (f p.1 (mS st.1 p.2,st.2)).1 p.2,(f p.1 (mS st.1 p.2,st.2)).2)
def eP:Nat→Ex→BO→BO
 |0,_,st=>st
 |m+1,e,st=>if e.kind=1 then (if da st.1 e.name=0 then (st.1,qM st.2 e.name) else st) else (bM e).foldl (jf (eP m)) st
theorem Ag:∀ (m:Nat) (e:Ex) (st:BO) (s:aD),da (eP m e st).1 s=da st.1 s
 |0,e,st,s=>rfl
 |m+1,e,st,s=>by
  rw[eP]
  split
  ·split<;>rfl
  ·generalize bM e=l
   induction l generalizing st with
   |nil=>rfl
   |cons p l ih=>
    rw[List.foldl_cons,ih]
    simp only[jf,sW,Ag m,nH]
    omega
theorem F8 (m:Nat) (st:BO) (p:Ex×List aD) (s:aD):da (jf (eP m) st p).1 s=da st.1 s:=by
 simp only[jf,sW,Ag m,nH]
 omega
theorem uc (m:Nat):∀ (l:List (Ex×List aD)) (st:BO) (s:aD),da (l.foldl (jf (eP m)) st).1 s=da st.1 s
 |[],st,s=>rfl
 |p::l,st,s=>by rw[List.foldl_cons,uc m l,F8]
theorem Ke {e:Ex} {p:Ex×List aD} (h:p∈bM e):p.1.wt+p.2.length<e.wt:=by
 obtain⟨kd,nm,nn,op,names,ae,binds,alts⟩:=e
 have h1:=eD names
 have h2:∀ (l:List Bd) (b:Bd),b∈l→b.e.wt+l.length≤aV l:=fun l=>by
  induction l with
  |nil=>intro b hb;cases hb
  |cons x r ih=>
   intro b hb
   simp only[aV,List.length_cons]
   have hx:=x.dw
   rcases List.mem_cons.1 hb with rfl|hb
   ·have:=cM r;omega
   ·have:=ih b hb;omega
 have hown:(cA kd names binds).length≤names.length+binds.length:=by
  unfold cA
  split
  ·omega
  ·split<;>simp
 have h3:=cM binds
 simp only[Ex.wt]
 simp only[bM,List.mem_append,List.mem_map] at h
 rcases h with⟨x,hx,rfl⟩|⟨b,hb,rfl⟩|⟨a,ha,rfl⟩
 ·have:=fg hx
  simp only;omega
 ·have:=h2 binds b hb
  simp only
  have:(cA kd names binds).length≤names.length+binds.length:=hown
  unfold cA
  split
  ·omega
  ·split
   ·simp;omega
   ·simp;omega
 ·have h4:=dZ ha
  obtain⟨ak,an,am,al,ab⟩:=a
  simp only[Al.wt] at h4
  simp only[Al.body,Al.names,List.length_append]
  have:=eD al
  split<;>simp<;>omega
def UH (H:List av) (ib io:Nat) (st:BO):List av:=(H.set ib (.map none (kG st.1))).set io (.map none (kB st.2))
theorem gB (n:Nat):∀ l:List (aD×Int),dq n (kG l)=true
 |[]=>rfl
 |p::l=>by simp only[kG,List.map_cons,dq,SV.under,Bool.and_self,Bool.true_and];exact gB n l
theorem nL (n:Nat):∀ l:List aD,dq n (kB l)=true
 |[]=>rfl
 |p::l=>by simp only[kB,List.map_cons,dq,SV.under,Bool.and_self,Bool.true_and];exact nL n l
structure iX (M:BO→List av) (n0 ib io:Nat):Prop where
 len:∀ st,(M st).length=n0
 lt:ib<n0∧io<n0∧ib≠io
 get:∀ st,(M st)[ib]? =some (.map none (kG st.1))∧(M st)[io]? =some (.map none (kB st.2))
 set:∀ st b o,(M st).set ib (.map none (kG b))=M (b,st.2)∧(M st).set io (.map none (kB o))=M (st.1,o)
 rest:∀ st st' i,i≠ib→i≠io→(M st)[i]? =(M st')[i]?
theorem La {H:List av} {ib io:Nat} {st0:BO} (hb:H[ib]? =some (.map none (kG st0.1))) (ho:H[io]? =some (.map none (kB st0.2))) (hne:ib≠io):iX (UH H ib io) H.length ib io∧UH H ib io st0=H:=by
 have lb:=(List.getElem?_eq_some_iff.1 hb).1
 have lo:=(List.getElem?_eq_some_iff.1 ho).1
 refine⟨⟨fun st=>by simp[UH],⟨lb,lo,hne⟩,fun st=>⟨?_,?_⟩,fun st b o=>⟨?_,?_⟩,fun st st' i h1 h2=>?_⟩,?_⟩
 ·simp only[UH]
  rw[List.getElem?_set_ne (fun e=>hne e.symm),List.getElem?_set_self lb]
 ·simp only[UH]
  rw[List.getElem?_set_self (by simpa using lo)]
 ·simp only[UH]
  rw[List.set_comm _ _ (fun e=>hne e.symm),List.set_set]
 ·simp only[UH]
  rw[List.set_set]
 ·simp only[UH]
  rw[List.getElem?_set_ne (fun e=>h2 e.symm),List.getElem?_set_ne (fun e=>h1 e.symm),List.getElem?_set_ne (fun e=>h2 e.symm),List.getElem?_set_ne (fun e=>h1 e.symm)]
 ·simp only[UH]
  rw[dM hb,dM ho]
theorem iX.cls {M:BO→List av} {n0 ib io:Nat} (h:iX M n0 ib io) {st st':BO} (hc:closed (M st)):closed (M st'):=by
 intro B hB
 obtain⟨i,hi,rfl⟩:=List.getElem_of_mem hB
 have hi2:i<(M st).length:=by rw[h.len] at hi ⊢;exact hi
 have hl:(M st').length=(M st).length:=by rw[h.len,h.len]
 have hg:(M st')[i]? =some (M st')[i]:=List.getElem?_eq_getElem hi
 rw[hl]
 show av.under _ ((M st')[i])=true
 by_cases h1:i=ib
 ·subst h1;rw[(h.get st').1] at hg;rw[← Option.some.inj hg];exact gB _ _
 ·by_cases h2:i=io
  ·subst h2;rw[(h.get st').2] at hg;rw[← Option.some.inj hg];exact nL _ _
  ·rw[h.rest st' st i h1 h2,List.getElem?_eq_getElem hi2] at hg
   rw[← Option.some.inj hg]
   exact hc _ (List.getElem_mem hi2)
theorem iX.app {M:BO→List av} {n0 ib io:Nat} (h:iX M n0 ib io) (L:List av):iX (fun st=>M st++L) (n0+L.length) ib io:=by
 have lb:∀ st,ib<(M st).length:=fun st=>by rw[h.len];exact h.lt.1
 have lo:∀ st,io<(M st).length:=fun st=>by rw[h.len];exact h.lt.2.1
 refine⟨fun st=>by simp[h.len],⟨by have:=h.lt.1;omega,by have:=h.lt.2.1;omega,h.lt.2.2⟩,fun st=>⟨?_,?_⟩,fun st b o=>⟨?_,?_⟩,fun st st' i h1 h2=>?_⟩
 ·rw[List.getElem?_append_left (lb st)];exact(h.get st).1
 ·rw[List.getElem?_append_left (lo st)];exact(h.get st).2
 ·rw[gY (lb st),(h.set st b o).1]
 ·rw[gY (lo st),(h.set st b o).2]
 ·rw[List.getElem?_append,List.getElem?_append,h.len,h.len,h.rest st st' i h1 h2]
theorem iX.UH {M:BO→List av} {n0 ib io:Nat} (h:iX M n0 ib io) (st st':BO):UH (M st) ib io st'=M st':=by
 simp only[Go.Proofs.YtjdfoonhnmpkdaaGreatDoor.UH]
 rw[(h.set st st'.1 []).1,(h.set _ [] st'.2).2]
theorem iX.X {M:BO→List av} {n0 ib io:Nat} (h:iX M n0 ib io):((∀ st L,(M st++L)[ib]? =some (.map none (kG st.1)))∧(∀ st L,(M st++L)[io]? =some (.map none (kB st.2))))∧
 ((∀ st b L,(M st++L).set ib (.map none (kG b))=M (b,st.2)++L)∧(∀ st o L,(M st++L).set io (.map none (kB o))=M (st.1,o)++L))∧
 ((∀ st b,(M st).set ib (.map none (kG b))=M (b,st.2))∧(∀ st o,(M st).set io (.map none (kB o))=M (st.1,o)))∧
 ((∀ st,(M st)[ib]? =some (.map none (kG st.1)))∧(∀ st,(M st)[io]? =some (.map none (kB st.2))))∧
 ((∀ st,(M st).length=n0)∧(∀ st L,(M st++L)[n0]? =L[0]?)∧(∀ st L k,(M st++L)[n0+k]? =L[k]?)∧(∀ st L x,(M st++L).set n0 x=M st++L.set 0 x)∧(∀ st L k x,(M st++L).set (n0+k) x=M st++L.set k x)):=by
 have lb:∀ st,ib<(M st).length:=fun st=>by rw[h.len];exact h.lt.1
 have lo:∀ st,io<(M st).length:=fun st=>by rw[h.len];exact h.lt.2.1
 exact⟨⟨fun st L=>by rw[List.getElem?_append_left (lb st)];exact(h.get st).1,fun st L=>by rw[List.getElem?_append_left (lo st)];exact(h.get st).2⟩,
  ⟨fun st b L=>by rw[gY (lb st),(h.set st b []).1],fun st o L=>by rw[gY (lo st),(h.set st [] o).2]⟩,
  ⟨fun st b=>(h.set st b []).1,fun st o=>(h.set st [] o).2⟩,
  ⟨fun st=>(h.get st).1,fun st=>(h.get st).2⟩,Px M n0 h.len⟩
attribute [go_sem] uw rL oh
def Nc (b:List (aD×Int)) (w:Nat):Prop:=∀ s,0≤da b s∧da b s+w<1099511627776
def M5 (G:Gl) (f:Ex→BO→BO) (e:Ex):Prop:=∀ (H:List av) (ib io:Nat) (st:BO),H[ib]? =some (.map none (kG st.1))→H[io]? =some (.map none (kB st.2))→ib≠io→Nc st.1 e.wt→
 aq Tryz.prog G 37 [e.sv,.map ib,.map io] H (fun r H'=>H'=UH H ib io (f e st))
theorem CQ (G:Gl) (hG:ah G) (f:Ex→BO→BO) (s:Ex) (names:List aD) (hf:M5 G f s) (hfc:∀ st t,da (f s st).1 t=da st.1 t) (M:BO→List av) (n0 ib io pb po:Nat) (hM:iX M n0 ib io)
 (hpb:∀ st L,(M st++L)[pb]? =some (.cells 0 1 [.map ib])) (hpo:∀ st L,(M st++L)[po]? =some (.cells 0 1 [.map io])) (hp:pb<n0∧po<n0) (st:BO) (hc:Nc st.1 (s.wt+names.length)) (hw:s.wt+names.length<549755813888):
 aq Tryz.prog G 79 [s.sv,.list 1 (names.map .str),.ptr pb 0 0 0,.ptr po 0 0 0] (M st) (fun r H'=>H'=M (jf f st (s,names))):=by
 refine bP [] Tryz.func79 Tryz.ntmps79 fun C R' hR hC hcl hB hC' X=>?_
 have hC':=hC'.trans (hM.len st)
 have X:=fc hM.X hpb hpo
 have hlen:=hM.len
 have hcls:∀ st',closed (M st'):=fun st'=>hM.cls hcl
 have hc2:=hc
 (refine bK ?_)
 refine aA (fun i:Nat=>[(1,.list 1 (names.map .str)),(2,.ptr pb 0 0 0),(3,.ptr po 0 0 0),(4,.ptr n0 0 0 0),(10,.list 1 (names.map .str)),(11,.int .i64 names.length),(12,.int .i64 i)])
  (fun i=>M (mS st.1 (names.take i),st.2)++[.cells 0 8 [s.sv]]) (fun i=>names.length - i) (fun i=>i≤names.length) 0 (Nat.zero_le _) ?_ ?_
 ·exact bI (n0:=n0) [(n0,0)] hG hB hC' (hcls _)
 ·intro K i hi hK
  (refine bK ?_;with_reducible repeat' first|exact trivial|(apply aJ.mk<;>intro hb)|apply bN.mk)
  ·have hi':i<names.length:=by omega
   have h1:=nH (names.take i) st.1 names[i]
   have h2:=hc2 names[i]
   have h3:(names.take i).count names[i]≤(names.take i).length:=List.count_le_length
   rw[List.length_take] at h3
   rw[wrap_i64 _ (by omega),← I5,← List.take_succ_eq_append_getElem hi']
   exact hK _ _ (i+1) (by omega) (by omega) (bI (n0:=n0) [(n0,0)] hG hB hC' (hcls _))
  ·obtain rfl:i=names.length:=by omega
   rw[List.take_length]
   have hcall:=hf (M (mS st.1 names,st.2)++[.cells 0 8 [s.sv]]) ib io (mS st.1 names,st.2) (hM.X.1.1 _ _) (hM.X.1.2 _ _) hM.lt.2.2 (fun t=>by
    have h1:=nH names st.1 t
    have h2:=hc2 t
    have h3:names.count t≤names.length:=List.count_le_length
    simp only
    omega)
   rw[(hM.app _).UH] at hcall
   refine br hcall ?_
   rintro r H' rfl
   generalize hst2:f s (mS st.1 names,st.2)=st2
   have hcn:∀ t,da st2.1 t=da st.1 t+names.count t:=fun t=>by rw[← hst2,hfc,nH]
   (refine bK ?_)
   refine aA (fun i:Nat=>[(2,.ptr pb 0 0 0),(25,.list 1 (names.map .str)),(26,.int .i64 names.length),(27,.int .i64 i)])
    (fun i=>M (wu st2.1 (names.take i),st2.2)++[]) (fun i=>names.length - i) (fun i=>i≤names.length) 0 (Nat.zero_le _) ?_ ?_
   ·exact bI (n0:=n0) [] hG hB hC' (hcls _)
   ·intro K2 i hi hK2
    (refine bK ?_;with_reducible repeat' first|exact trivial|(apply aJ.mk<;>intro hb)|apply bN.mk)
    ·have hi':i<names.length:=by omega
     have h1:=sW (names.take i) st2.1 names[i]
     rw[hcn] at h1
     have h2:=hc2 names[i]
     have h3:(names.take i).count names[i]≤(names.take i).length:=List.count_le_length
     have h4:names.count names[i]≤names.length:=List.count_le_length
     rw[List.length_take] at h3
     rw[wrap_i64 _ (by omega),← H7,← List.take_succ_eq_append_getElem hi']
     exact hK2 _ _ (i+1) (by omega) (by omega) (bI (n0:=n0) [] hG hB hC' (hcls _))
    ·obtain rfl:i=names.length:=by omega
     rw[List.take_length]
     refine Fin.aS (n0:=n0) hR (hlen _) hC' (hcls _) (.same _ rfl) ?_
     simp only[jf,hst2]
theorem py (G:Gl) (hG:ah G):∀ (m:Nat) (e:Ex),e.wt≤m→e.wt<549755813888→M5 G (eP m) e
 |0,e,hw,_=>by have:=e.bZ;omega
 |m+1,e,hw,hw0=>by
  intro H ib io st hb ho hne hc
  obtain⟨kd,nm,nn,op,names,ae,binds,alts⟩:=e
  obtain⟨hM,hM0⟩:=La hb ho hne
  generalize UH H ib io=M at hM hM0 ⊢
  have hlt:=hM.lt
  have hlen:=hM.len
  rw[← hM0]
  refine bP [] Tryz.func37 Tryz.ntmps37 fun C R' hR hC hcl hB hC' X=>?_
  have hC':=hC'.trans (hlen st)
  generalize H.length=n0 at hM hlt hlen hC' ⊢
  have X:=hM.X
  have hcls:∀ st',closed (M st'):=fun st'=>hM.cls hcl
  have hu:kd≠1→eP (m+1) (.mk kd nm nn op names ae binds alts) st=(bM (.mk kd nm nn op names ae binds alts)).foldl (jf (eP m)) st:=fun h=>by rw[eP];exact if_neg h
  have hv:kd=1→eP (m+1) (.mk kd nm nn op names ae binds alts) st=if da st.1 nm=0 then (st.1,qM st.2 nm) else st:=fun h=>by rw[eP];exact if_pos h
  (refine run ?_;with_reducible repeat' first|exact trivial|(apply aJ.mk<;>intro hb)|apply bN.mk)
  ·refine Fin.aS (n0:=n0) hR (hlen _) hC' (hcls _) (.same _ rfl) ?_
   have h3:= ‹(decide (kd=1)&&decide (da st.1 nm=0))=true›
   simp only[Bool.and_eq_true,decide_eq_true_eq] at h3
   rw[hv hb,if_pos h3.2]
  ·exfalso;simp_all
  ·refine Fin.aS (n0:=n0) hR (hlen _) hC' (hcls _) (.same _ rfl) ?_
   have h3:= ‹(decide (kd=1)&&decide (da st.1 nm=0))=false›
   simp only[Bool.and_eq_false_iff,decide_eq_false_iff_not] at h3
   rw[hv hb,if_neg (by rcases h3 with h3|h3;exact absurd hb h3;exact h3)]
  ·let stI:Nat→BO:=fun i=>((bM (.mk kd nm nn op names ae binds alts)).take i).foldl (jf (eP m)) st
   have hsc:=G3 G hG (.mk kd nm nn op names ae binds alts) hw0 (.fn (.func 79) [] [.ptr (n0+1) 0 0 0,.ptr (n0+2) 0 0 0])
    (fun i=>M (stI i)++[.cells 0 8 [.agg [.int .i64 kd,.str nm,.int .i64 nn,.int .i64 op,.list 1 (names.map .str),.list 8 (ag ae),.list 9 (ad binds),.list 12 (af alts)]],.cells 0 1 [.map ib],.cells 0 1 [.map io]]) (n0+3) (fun i=>by simp[hlen]) (by simp[SV.under,SV.aj]) (fun hc i=>(hM.app _).cls hc) (fun i p Y hp=>by
     refine aY.of ?_
     have hpm:=List.mem_of_getElem? hp
     have hpw:=Ke hpm
     have hst:stI (i+1)=jf (eP m) (stI i) p:=by
      have hi:=(List.getElem?_eq_some_iff.1 hp)
      obtain⟨hi1,hi2⟩:=hi
      simp only[stI,List.take_succ_eq_append_getElem hi1,List.foldl_append,List.foldl_cons,List.foldl_nil,hi2]
     have:=CQ G hG (eP m) p.1 p.2 (py G hG m p.1 (by omega) (by omega)) (fun st t=>Ag m p.1 st t) (fun st=>(M st++[.cells 0 8 [.agg [.int .i64 kd,.str nm,.int .i64 nn,.int .i64 op,.list 1 (names.map .str),.list 8 (ag ae),.list 9 (ad binds),.list 12 (af alts)]],.cells 0 1 [.map ib],.cells 0 1 [.map io]])++Y) _ ib io (n0+1) (n0+2) ((hM.app _).app Y)
      (fun st L=>by simp only[List.append_assoc,List.cons_append,X,List.getElem?_cons_succ,List.getElem?_cons_zero]) (fun st L=>by simp only[List.append_assoc,List.cons_append,X,List.getElem?_cons_succ,List.getElem?_cons_zero]) (by simp;omega) (stI i) (fun t=>by
       have h1:=uc m ((bM (.mk kd nm nn op names ae binds alts)).take i) st t
       have h2:=hc t
       show 0≤da (List.foldl (jf (eP m)) st _).1 t∧da (List.foldl (jf (eP m)) st _).1 t+_<_
       omega) (by omega)
     simp only[hst]
     exact this)
   simp only[show stI 0=st from rfl] at hsc
   refine br hsc ?_
   rintro r H' rfl
   have hend:stI (bM (.mk kd nm nn op names ae binds alts)).length=eP (m+1) (.mk kd nm nn op names ae binds alts) st:=by
    rw[hu hb];simp only[stI,List.take_length]
   simp only[hend]
   (refine run ?_)
   exact Fin.aS (n0:=n0) hR (hlen _) hC' (hcls _) (.same _ rfl) rfl
theorem Jz {l:List aD} {born:List Nat} {idx:List Nat} (hnd:idx.Nodup) (hlt:∀ i∈idx,i<l.length) (hb:born.Nodup) (hlb:born.length=l.length)
 (hall:∀ b∈born,(idx.map fun i=>born.getD i 0).toArray.contains b=true):(idx.map fun i=>l.getD i []).Perm l:=by
 have hin:∀ i,i<l.length→i∈idx:=fun i hi=>by
  have hi':i<born.length:=by omega
  have:=hall born[i] (List.getElem_mem hi')
  simp only[List.contains_toArray,List.contains_iff_mem,List.mem_map] at this
  obtain⟨j,hj,e⟩:=this
  have hj':j<born.length:=by have:=hlt j hj;omega
  rw[List.getD_eq_getElem?_getD,List.getElem?_eq_getElem hj'] at e
  simp only[Option.getD_some] at e
  obtain rfl:j=i:=(List.getElem_inj hb).1 e
  exact hj
 have hp:idx.Perm (List.range l.length):=(List.perm_ext_iff_of_nodup hnd List.nodup_range).2 fun i=>by
  rw[List.mem_range];exact⟨hlt i,hin i⟩
 have:=hp.map fun i=>l.getD i []
 refine this.trans (.of_eq ?_)
 apply List.ext_getElem?
 intro i
 rw[List.getElem?_map]
 by_cases h:i<l.length
 ·rw[List.getElem?_range h];simp[h]
 ·rw[List.getElem?_eq_none (by simpa using h),List.getElem?_eq_none (by omega)];rfl
theorem kl {n:Nat} {idx:List Nat} (hnd:idx.Nodup) (hlt:∀ i∈idx,i<n):idx.length≤n:=by
 have hp:idx.Perm ((List.range n).filter fun i=>decide (i∈idx)):=(List.perm_ext_iff_of_nodup hnd (List.nodup_range.filter _)).2 fun i=>by
  simp only[List.mem_filter,List.mem_range,decide_eq_true_eq]
  exact⟨fun h=>⟨hlt i h,h⟩,fun h=>h.2⟩
 have h2:=List.length_filter_le (fun i=>decide (i∈idx)) (List.range n)
 rw[← hp.length_eq,List.length_range] at h2
 exact h2
theorem Jc (G:Gl) (hG:ah G) (n1 pb n0 bm clk:Nat) (born:List Nat) (l:List aD) (vs:List SV) (hlb:born.length=l.length) (hlv:vs.length=l.length) (hnd:born.Nodup) (M:List aD→List av) (hlen:∀ s,(M s).length=n0) (h1:n1<n0) (hll:l.length<1099511627776)
 (hpb:∀ s L,(M s++L)[pb]? =some (.cells 0 1 [.eC bm clk born none (l.map .str) vs])) (hvs:∀ n,SV.aj n vs=true) (hcls:closed (M [])→∀ s,closed (M s))
 (hy:∀ s x X,s.length<l.length→aY Tryz.prog G (.it n1) [.str x] (M s++X) (fun r H'=>H'=M (s++[x])++X∧r= .bool true)):
 aq Tryz.prog G 178 [.it n1,.ptr pb 0 0 0] (M []) (fun r H'=>∃ s,s.Perm l∧H'=M s):=by
 refine bP [] Tryz.func178 Tryz.ntmps178 fun C R' hR hC hcl hB hC' X=>?_
 have hC':=hC'.trans (hlen [])
 have hcl:=hcls hcl
 have hpb0:∀ s,(M s)[pb]? =some (.cells 0 1 [.eC bm clk born none (l.map .str) vs]):=fun s=>by simpa using hpb s []
 have X:=fc (Px M n0 hlen) hpb hpb0
 have hks:∀ n,SV.aj n (l.map SV.str)=true:=fun n=>bj n l
 have him:(SV.eC bm clk born none (l.map SV.str) vs).under n0=true:=by simp only[SV.under,hks,hvs,Bool.and_self]
 (refine run ?_)
 refine BG rfl rfl rfl ?_
 simp only[hlen]
 (refine run ?_)
 refine aA (fun idx:List Nat=>[(0,.it n1),(4,.eC bm clk born none (l.map .str) vs),(5,.it n0)]) (fun idx=>M (idx.map fun i=>l.getD i [])++[.obj (.mapIter (some bm) clk (idx.map fun i=>born.getD i 0).toArray clk)])
  (fun idx=>l.length - idx.length) (fun idx=>idx.Nodup∧∀ i∈idx,i<l.length) [] ⟨List.nodup_nil,by simp⟩ ?_ ?_
 ·exact Wk.sub (by simp[aW,look])
 ·rintro K idx ⟨hi1,hi2⟩ hK
  have hle:=kl hi1 hi2
  generalize hs:idx.map (fun i=>l.getD i [])=s
  generalize hse:(idx.map fun i=>born.getD i 0).toArray=seen
  (refine run ?_)
  refine EU (tm:=4) rfl rfl (by simp only[X,List.getElem?_cons_zero];rfl) rfl (fun hall=>?_) (fun i b q y hb hsn hq hy2=>?_)
  ·(refine run ?_)
   refine Fin.aS (n0:=n0) hR (hlen _) hC' (hcl _) (.same _ rfl) ⟨s,?_,rfl⟩
   rw[← hs]
   exact Jz hi1 hi2 hnd hlb (fun b hb=>by rw[hse];exact hall b hb)
  ·have hi:i<l.length:=by have:=(List.getElem?_eq_some_iff.1 hb).1;omega
   have hq':q= .str l[i]:=by rw[List.getElem?_map,List.getElem?_eq_getElem hi] at hq;cases hq;rfl
   subst hq'
   have hni:i∉idx:=fun hm=>by
    rw[← hse] at hsn
    have:(idx.map fun i=>born.getD i 0).toArray.contains b=true:=by
     simp only[List.contains_toArray,List.contains_iff_mem,List.mem_map]
     exact⟨i,hm,by rw[List.getD_eq_getElem?_getD,hb];rfl⟩
    rw[this] at hsn;cases hsn
   have hlt:idx.length<l.length:=by
    have:=kl (n:=l.length) (idx:=idx++[i]) (List.nodup_append.2 ⟨hi1,by simp,by simp;exact fun a ha e=>hni (e ▸ ha)⟩) (by simp only[List.mem_append,List.mem_singleton];exact fun a ha=>ha.elim (hi2 a) (fun e=>e ▸ hi))
    simp at this;omega
   have hsl:s.length=idx.length:=by rw[← hs];simp
   simp only[X,List.set_cons_zero]
   (refine run ?_)
   refine BF (tm:=4) rfl rfl (by simp only[X,List.getElem?_cons_zero];rfl) hb (by rw[List.getElem?_map,List.getElem?_eq_getElem hi];rfl) hy2 rfl ?_
   (refine run ?_)
   refine eS (hy s l[i] _ (by omega)) ?_
   rintro r H' ⟨rfl,rfl⟩
   (refine run ?_)
   have e1:(idx++[i]).map (fun i=>l.getD i [])=s++[l[i]]:=by
    rw[List.map_append,hs];simp[hi]
   have e2:((idx++[i]).map fun i=>born.getD i 0).toArray=seen.push b:=by
    rw[List.map_append,← hse];simp[hb]
   refine hK _ _ (idx++[i]) (by simp;omega) ⟨List.nodup_append.2 ⟨hi1,by simp,by simp;exact fun a ha e=>hni (e ▸ ha)⟩,by simp only[List.mem_append,List.mem_singleton];exact fun a ha=>ha.elim (hi2 a) (fun e=>e ▸ hi)⟩ ?_
   rw[e1,e2]
   exact Wk.sub (by simp[aW,look])
end Go.Proofs.YtjdfoonhnmpkdaaGreatDoor
section
open Go
namespace Go.Proofs
open Go.Shelf
def Tryz.B3:Go.Shelf.Ren:=⟨fun|190=>35|125=>77|258=>76|128=>115|129=>116|302=>106|303=>107|304=>108|305=>109|306=>110|307=>111|308=>112|309=>113|310=>114|333=>149|329=>150|330=>151|334=>152|335=>153|336=>154|344=>175|n=>n,fun|31=>38|9=>9|3=>3|46=>108|0=>0|51=>141|53=>143|4=>4|183=>134|182=>133|131=>49|5=>5|218=>180|222=>184|228=>218|229=>219|n=>n,fun|n=>n⟩
theorem Tryz.Fb:Go.Proofs.Lays.n190 Tryz.prog Tryz.B3:={
 mixed:=by kernel_rfl
 f125:=Tryz.func77.trans (congrArg some (by kernel_rfl))
 f128:=Tryz.func115.trans (congrArg some (by kernel_rfl))
 f129:=Tryz.func116.trans (congrArg some (by kernel_rfl))
 f190:=Tryz.func35.trans (congrArg some (by kernel_rfl))
 f258:=Tryz.func76.trans (congrArg some (by kernel_rfl))
 f302:=Tryz.func106.trans (congrArg some (by kernel_rfl))
 f303:=Tryz.func107.trans (congrArg some (by kernel_rfl))
 f304:=Tryz.func108.trans (congrArg some (by kernel_rfl))
 f305:=Tryz.func109.trans (congrArg some (by kernel_rfl))
 f306:=Tryz.func110.trans (congrArg some (by kernel_rfl))
 f307:=Tryz.func111.trans (congrArg some (by kernel_rfl))
 f308:=Tryz.func112.trans (congrArg some (by kernel_rfl))
 f309:=Tryz.func113.trans (congrArg some (by kernel_rfl))
 f310:=Tryz.func114.trans (congrArg some (by kernel_rfl))
 f329:=Tryz.func150.trans (congrArg some (by kernel_rfl))
 f330:=Tryz.func151.trans (congrArg some (by kernel_rfl))
 f333:=Tryz.func149.trans (congrArg some (by kernel_rfl))
 f334:=Tryz.func152.trans (congrArg some (by kernel_rfl))
 f335:=Tryz.func153.trans (congrArg some (by kernel_rfl))
 f336:=Tryz.func154.trans (congrArg some (by kernel_rfl))
 f344:=Tryz.func175.trans (congrArg some (by kernel_rfl))
 t0:=Tryz.underlying0
 a0:=Tryz.isAgg0
 z0:=Tryz.sizeOf0
 v0:=Tryz.zeroValue0
 t3:=Tryz.underlying3
 a3:=Tryz.isAgg3
 z3:=Tryz.sizeOf3
 v3:=Tryz.zeroValue3
 t4:=Tryz.underlying4
 a4:=Tryz.isAgg4
 z4:=Tryz.sizeOf4
 v4:=Tryz.zeroValue4
 t5:=Tryz.underlying5
 a5:=Tryz.isAgg5
 z5:=Tryz.sizeOf5
 v5:=Tryz.zeroValue5
 t9:=Tryz.underlying9
 a9:=Tryz.isAgg9
 z9:=Tryz.sizeOf9
 v9:=Tryz.zeroValue9
 t31:=Tryz.underlying38
 a31:=Tryz.isAgg38
 z31:=Tryz.sizeOf38
 v31:=Tryz.zeroValue38
 t46:=Tryz.underlying108
 a46:=Tryz.isAgg108
 z46:=Tryz.sizeOf108
 v46:=Tryz.zeroValue108
 t51:=Tryz.underlying141
 a51:=Tryz.isAgg141
 z51:=Tryz.sizeOf141
 v51:=Tryz.zeroValue141
 t53:=Tryz.underlying143
 a53:=Tryz.isAgg143
 z53:=Tryz.sizeOf143
 v53:=Tryz.zeroValue143
 t131:=Tryz.underlying49
 a131:=Tryz.isAgg49
 z131:=Tryz.sizeOf49
 v131:=Tryz.zeroValue49
 t182:=Tryz.underlying133
 a182:=Tryz.isAgg133
 z182:=Tryz.sizeOf133
 v182:=Tryz.zeroValue133
 t183:=Tryz.underlying134
 a183:=Tryz.isAgg134
 z183:=Tryz.sizeOf134
 v183:=Tryz.zeroValue134
 t218:=Tryz.underlying180
 a218:=Tryz.isAgg180
 z218:=Tryz.sizeOf180
 v218:=Tryz.zeroValue180
 t222:=Tryz.underlying184
 a222:=Tryz.isAgg184
 z222:=Tryz.sizeOf184
 v222:=Tryz.zeroValue184
 t228:=Tryz.underlying218
 a228:=Tryz.isAgg218
 z228:=Tryz.sizeOf218
 v228:=Tryz.zeroValue218
 t229:=Tryz.underlying219
 a229:=Tryz.isAgg219
 z229:=Tryz.sizeOf219
 v229:=Tryz.zeroValue219}
open Go.Sort Go.RowKit in
theorem Tryz.slices_Sort_string (dQ off cap:Nat) (ss:List (List UInt8)) (w:World) (hH:Holds encStr w dQ off ss.toArray) (hblk:dQ<w.heap.size) (hsz:ss.length<4611686018427387904):
 Calls Tryz.prog 35 #[.slice (some ⟨dQ,off,none⟩) ss.length cap] w fun e w'=>
  e= .returned (.tuple #[])∧∃ n os,w'=grow (putRow encStr (Sort.ahead w n) dQ off (ss.mergeSort fun x y=>decide (x≤y)).toArray) os:=Any.slices_Sort_string Tryz.Fb dQ off cap ss w hH hblk hsz
open Go.RowKit Go.Sort in
theorem Tryz.slices_Sort_string_none (p:Option Addr) (cap:Nat) (w:World):
 Calls Tryz.prog 35 #[.slice p 0 cap] w fun e w'=>e= .returned (.tuple #[])∧w'=w:=Any.slices_Sort_string_none Tryz.Fb p cap w
end Go.Proofs
end
namespace Go.Proofs.YtjdfoonhnmpkdaaGreatDoor
open Go
end Go.Proofs.YtjdfoonhnmpkdaaGreatDoor
section
open Go
namespace Go.Proofs
open Go.Shelf
def Tryz.B1:Go.Shelf.Ren:=⟨fun|189=>141|125=>77|257=>167|128=>115|129=>116|294=>179|295=>180|296=>181|297=>182|298=>183|299=>184|216=>185|300=>186|301=>187|328=>195|329=>150|330=>151|331=>196|332=>197|215=>198|343=>201|n=>n,fun|28=>124|3=>3|46=>108|0=>0|51=>141|53=>143|4=>4|183=>134|182=>133|131=>49|5=>5|9=>9|218=>180|222=>184|228=>218|229=>219|n=>n,fun|n=>n⟩
theorem Tryz.Fa:Go.Proofs.Lays.n189 Tryz.prog Tryz.B1:={
 mixed:=by kernel_rfl
 f125:=Tryz.func77.trans (congrArg some (by kernel_rfl))
 f128:=Tryz.func115.trans (congrArg some (by kernel_rfl))
 f129:=Tryz.func116.trans (congrArg some (by kernel_rfl))
 f189:=Tryz.func141.trans (congrArg some (by kernel_rfl))
 f215:=Tryz.func198.trans (congrArg some (by kernel_rfl))
 f216:=Tryz.func185.trans (congrArg some (by kernel_rfl))
 f257:=Tryz.func167.trans (congrArg some (by kernel_rfl))
 f294:=Tryz.func179.trans (congrArg some (by kernel_rfl))
 f295:=Tryz.func180.trans (congrArg some (by kernel_rfl))
 f296:=Tryz.func181.trans (congrArg some (by kernel_rfl))
 f297:=Tryz.func182.trans (congrArg some (by kernel_rfl))
 f298:=Tryz.func183.trans (congrArg some (by kernel_rfl))
 f299:=Tryz.func184.trans (congrArg some (by kernel_rfl))
 f300:=Tryz.func186.trans (congrArg some (by kernel_rfl))
 f301:=Tryz.func187.trans (congrArg some (by kernel_rfl))
 f328:=Tryz.func195.trans (congrArg some (by kernel_rfl))
 f329:=Tryz.func150.trans (congrArg some (by kernel_rfl))
 f330:=Tryz.func151.trans (congrArg some (by kernel_rfl))
 f331:=Tryz.func196.trans (congrArg some (by kernel_rfl))
 f332:=Tryz.func197.trans (congrArg some (by kernel_rfl))
 f343:=Tryz.func201.trans (congrArg some (by kernel_rfl))
 t0:=Tryz.underlying0
 a0:=Tryz.isAgg0
 z0:=Tryz.sizeOf0
 v0:=Tryz.zeroValue0
 t3:=Tryz.underlying3
 a3:=Tryz.isAgg3
 z3:=Tryz.sizeOf3
 v3:=Tryz.zeroValue3
 t4:=Tryz.underlying4
 a4:=Tryz.isAgg4
 z4:=Tryz.sizeOf4
 v4:=Tryz.zeroValue4
 t5:=Tryz.underlying5
 a5:=Tryz.isAgg5
 z5:=Tryz.sizeOf5
 v5:=Tryz.zeroValue5
 t9:=Tryz.underlying9
 a9:=Tryz.isAgg9
 z9:=Tryz.sizeOf9
 v9:=Tryz.zeroValue9
 t28:=Tryz.underlying124
 a28:=Tryz.isAgg124
 z28:=Tryz.sizeOf124
 v28:=Tryz.zeroValue124
 t46:=Tryz.underlying108
 a46:=Tryz.isAgg108
 z46:=Tryz.sizeOf108
 v46:=Tryz.zeroValue108
 t51:=Tryz.underlying141
 a51:=Tryz.isAgg141
 z51:=Tryz.sizeOf141
 v51:=Tryz.zeroValue141
 t53:=Tryz.underlying143
 a53:=Tryz.isAgg143
 z53:=Tryz.sizeOf143
 v53:=Tryz.zeroValue143
 t131:=Tryz.underlying49
 a131:=Tryz.isAgg49
 z131:=Tryz.sizeOf49
 v131:=Tryz.zeroValue49
 t182:=Tryz.underlying133
 a182:=Tryz.isAgg133
 z182:=Tryz.sizeOf133
 v182:=Tryz.zeroValue133
 t183:=Tryz.underlying134
 a183:=Tryz.isAgg134
 z183:=Tryz.sizeOf134
 v183:=Tryz.zeroValue134
 t218:=Tryz.underlying180
 a218:=Tryz.isAgg180
 z218:=Tryz.sizeOf180
 v218:=Tryz.zeroValue180
 t222:=Tryz.underlying184
 a222:=Tryz.isAgg184
 z222:=Tryz.sizeOf184
 v222:=Tryz.zeroValue184
 t228:=Tryz.underlying218
 a228:=Tryz.isAgg218
 z228:=Tryz.sizeOf218
 v228:=Tryz.zeroValue218
 t229:=Tryz.underlying219
 a229:=Tryz.isAgg219
 z229:=Tryz.sizeOf219
 v229:=Tryz.zeroValue219}
open Go.Sort Go.RowKit in
theorem Tryz.slices_Sort_int (dQ off cap:Nat) (zs:List Int) (w:World) (hH:Holds (Value.int .i64) w dQ off zs.toArray) (hblk:dQ<w.heap.size) (hsz:zs.length<4611686018427387904):
 Calls Tryz.prog 141 #[.slice (some ⟨dQ,off,none⟩) zs.length cap] w fun e w'=>
  e= .returned (.tuple #[])∧∃ n os,w'=grow (putRow (Value.int .i64) (Sort.ahead w n) dQ off (zs.mergeSort fun x y=>decide (x≤y)).toArray) os:=Any.slices_Sort_int Tryz.Fa dQ off cap zs w hH hblk hsz
open Go.RowKit Go.Sort in
theorem Tryz.slices_Sort_int_none (p:Option Addr) (cap:Nat) (w:World):
 Calls Tryz.prog 141 #[.slice p 0 cap] w fun e w'=>e= .returned (.tuple #[])∧w'=w:=Any.slices_Sort_int_none Tryz.Fa p cap w
end Go.Proofs
end
namespace Go.Proofs.YtjdfoonhnmpkdaaGreatDoor
open Go
theorem mn {H L L':List av} (h:closed (H++L)) (hl:L'.length=L.length) (hu:∀ b∈L',b.under (H.length+L.length)=true):closed (H++L'):=by
 intro B hB
 rw[List.length_append,hl]
 rcases List.mem_append.1 hB with h1|h1
 ·have:=h B (List.mem_append_left _ h1)
  rwa[List.length_append] at this
 ·exact hu B h1
theorem yE (G:Gl) (hG:ah G) (pb bm clk:Nat) (born:List Nat) (l:List aD) (vs:List SV) (hlb:born.length=l.length) (hlv:vs.length=l.length) (hnd:born.Nodup) (hll:l.length<1099511627776) (H:List av)
 (hpb:H[pb]? =some (.cells 0 1 [.eC bm clk born none (l.map .str) vs])) (hvs:∀ n,SV.aj n vs=true):
 aq Tryz.prog G 194 [.nil,.fn (.func 178) [] [.ptr pb 0 0 0]] H (fun r H'=>∃ s:List aD,s.Perm l∧H'=H++[.cells 0 1 (s.map .str)]∧r= .sl H.length 0 0 s.length):=by
 have hpl:pb<H.length:=(List.getElem?_eq_some_iff.1 hpb).1
 refine bP [] Tryz.func194 Tryz.ntmps194 fun C R' hR hC hcl hB hC' X=>?_
 refine Gs 0 1 rfl ?_
 (refine run ?_)
 refine fj iD (σ:=List aD) (ξ:=aD) (fun s=>H++[.cells s.length 1 (s.map .str),.cells 0 1 [.sl H.length s.length 0 s.length]]) (H.length+2) (fun s=>by simp) []
  [(2,.ptr (H.length+1) 0 0 0),(6,.fn (.func 178) [] [.ptr pb 0 0 0])] (fun x=>[.str x]) (fun s x=>s.length<l.length) (fun s x=>s++[x]) (fun s=>s.Perm l)
  (fun x=>[(7,.str x),(2,.ptr (H.length+1) 0 0 0),(6,.fn (.func 178) [] [.ptr pb 0 0 0])]) rfl rfl (fun x=>rfl) (fun x=>rfl) ?_ ?_ ?_ ?_
 ·exact Wk.sub (by simp[aW,look])
 ·intro G' LO hGl hLO hy
  have:=Jc G' (by unfold ah;rw[hGl];exact hG) (H.length+2) pb (H.length+3) bm clk born l vs hlb hlv hnd (fun s=>(H++[.cells s.length 1 (s.map .str),.cells 0 1 [.sl H.length s.length 0 s.length]])++[LO]) (fun s=>by simp) (by omega) hll
   (fun s L=>by simp only[List.append_assoc];rw[List.getElem?_append_left hpl];exact hpb) hvs (fun hc s=>by
    simp only[List.append_assoc] at hc ⊢
    refine mn hc (by simp) (fun b hb=>?_)
    simp only[List.cons_append,List.nil_append,List.mem_cons,List.not_mem_nil,or_false] at hb
    rcases hb with rfl|rfl|rfl
    ·exact bj _ _
    ·simp[av.under,SV.aj,SV.under]
    ·simpa using hLO) (fun s x X hs=>by
     have:=hy s x X hs
     simpa only[List.append_assoc,List.cons_append,List.nil_append] using this)
  exact this.mono fun r H' ⟨s,h1,h2⟩=>⟨s,h1,h2⟩
 ·intro G' C' ρ' s x Y LO LB K1 K hGl hB' hCH hcl' hLO hLB hs hK1 hK
  have X:=aO
  have hG':ah G':=by unfold ah;rw[hGl];exact hG
  simp only[List.append_assoc,List.cons_append,List.nil_append] at hcl' hCH ⊢
  (refine run ?_)
  refine hK1 _ _ (by simp[List.getElem?_append_right]) ?_
  simp only[bW,List.set_cons_succ,List.set_cons_zero]
  (refine run ?_)
  refine hK _ _ ?_
  simp only[List.append_assoc,List.cons_append,List.nil_append,List.length_append,List.length_cons,List.length_nil,List.map_append,List.map_cons,List.map_nil,Nat.zero_add]
  exact Wk.sub trivial
 ·intro s LO hs hLO
  simp only[List.append_assoc,List.cons_append,List.nil_append]
  (refine run ?_)
  refine gD [(H.length,0)] (.sl H.length 0 0 s.length) [.cells 0 1 (s.map .str)] hR hC' hcl ⟨s,hs,rfl,rfl⟩
theorem Di (G:Gl) (hG:ah G) (pb bm clk:Nat) (born:List Nat) (l:List aD) (vs:List SV) (hlb:born.length=l.length) (hlv:vs.length=l.length) (hnd:born.Nodup) (hll:l.length<1099511627776) (H:List av)
 (hpb:H[pb]? =some (.cells 0 1 [.eC bm clk born none (l.map .str) vs])) (hvs:∀ n,SV.aj n vs=true):
 aq Tryz.prog G 177 [.fn (.func 178) [] [.ptr pb 0 0 0]] H (fun r H'=>∃ s:List aD,s.Perm l∧H'=H++[.cells 0 1 (s.map .str)]∧r= .sl H.length 0 0 s.length):=by
 refine bP [] Tryz.func177 Tryz.ntmps177 fun C R' hR hC hcl hB hC' X=>?_
 (refine run ?_)
 refine br (yE G hG pb bm clk born l vs hlb hlv hnd hll H hpb hvs) ?_
 rintro r H' ⟨s,hs,rfl,rfl⟩
 (refine run ?_)
 exact gD [(H.length,0)] (.sl H.length 0 0 s.length) [.cells 0 1 (s.map .str)] hR hC' hcl ⟨s,hs,rfl,rfl⟩
def cW (l:List aD):List aD:=l.mergeSort fun x y=>decide (x≤y)
theorem lS (l:List aD):(cW l).Perm l:=List.mergeSort_perm l _
theorem iV (l:List aD):(cW l).length=l.length:=(lS l).length_eq
theorem CK {s l:List aD} (h:s.Perm l):cW s=cW l:=Go.mergeSort_of_perm h
theorem rR (G:Gl) (id g:Nat) (l:List aD) (H:List av) (hH:H[id]? =some (.cells g 1 (l.map .str))) (hl:l.length<4611686018427387904):
 aq Tryz.prog G 35 [.sl id g 0 l.length] H (fun r H'=>H'=H.set id (.cells g 1 ((cW l).map .str))∧r= .tuple []):=
 aq.Fy encStr .str (fun s=>s.length≤maxLen) (fun c x v=>CB c x v) (fun _=>rfl) (fun x y=>decide (x≤y)) ⟨_,Tryz.func35,by decide,rfl⟩
  (fun dQ off cap zs w h1 h2 h3=>Tryz.slices_Sort_string dQ off cap zs w h1 h2 h3) (fun p cap w=>Tryz.slices_Sort_string_none p cap w) id g l H hH hl
theorem He (G:Gl) (hG:ah G) (pb bm clk:Nat) (born:List Nat) (l:List aD) (vs:List SV) (hlb:born.length=l.length) (hlv:vs.length=l.length) (hnd:born.Nodup) (hll:l.length<1099511627776) (H:List av)
 (hpb:H[pb]? =some (.cells 0 1 [.eC bm clk born none (l.map .str) vs])) (hvs:∀ n,SV.aj n vs=true):
 aq Tryz.prog G 164 [.fn (.func 178) [] [.ptr pb 0 0 0]] H (fun r H'=>H'=H++[.cells 0 1 ((cW l).map .str)]∧r= .sl H.length 0 0 l.length):=by
 refine bP [] Tryz.func164 Tryz.ntmps164 fun C R' hR hC hcl hB hC' X=>?_
 (refine run ?_)
 refine br (Di G hG pb bm clk born l vs hlb hlv hnd hll H hpb hvs) ?_
 rintro r H' ⟨s,hs,rfl,rfl⟩
 (refine run ?_)
 have hsl:=hs.length_eq
 refine br (rR G H.length 0 s _ (by simp) (by omega)) ?_
 rintro r H' ⟨rfl,rfl⟩
 rw[CK hs,hsl]
 simp only[du,List.set_cons_zero]
 (refine run ?_)
 exact gD [(H.length,0)] (.sl H.length 0 0 l.length) [.cells 0 1 ((cW l).map .str)] hR hC' hcl ⟨rfl,rfl⟩
theorem Mf (G:Gl) (hG:ah G) (bm clk:Nat) (born:List Nat) (l:List aD) (vs:List SV) (hvs:∀ n,SV.aj n vs=true) (H:List av):
 aq Tryz.prog G 165 [.eC bm clk born none (l.map .str) vs] H (fun r H'=>H'=H++[.cells 0 1 [.eC bm clk born none (l.map .str) vs]]∧r= .fn (.func 178) [] [.ptr H.length 0 0 0]):=by
 refine bP [] Tryz.func165 Tryz.ntmps165 fun C R' hR hC hcl hB hC' X=>?_
 have hks:∀ n,SV.aj n (l.map SV.str)=true:=fun n=>bj n l
 (refine run ?_)
 refine gD [(H.length,0)] (.fn (.func 178) [] [.ptr H.length 0 0 0]) [.cells 0 1 [.eC bm clk born none (l.map .str) vs]] hR hC' hcl ⟨rfl,rfl⟩ (.c (by exact dA) (Nat.le_refl _) (Nat.zero_le _) (b7.same ?_) .nil) (by simp) (.fn _ _ _ _ _ .nil (.cons _ _ _ _ (bF.kp 0 rfl (by exact dA) (Nat.le_refl _) rfl rfl) .nil))
 simp only[List.drop_zero,SV.aj,SV.under,hks,hvs,Bool.and_self]
def FK (l:List Int):List Int:=l.mergeSort fun x y=>decide (x≤y)
theorem Hd (G:Gl) (id g:Nat) (l:List Int) (H:List av) (hH:H[id]? =some (.cells g 1 (l.map (.int .i64)))) (hl:l.length<4611686018427387904):
 aq Tryz.prog G 141 [.sl id g 0 l.length] H (fun r H'=>H'=H.set id (.cells g 1 ((FK l).map (.int .i64)))∧r= .tuple []):=
 aq.Fy (.int .i64) (.int .i64) _ (fun c x v=>Cz .i64 c x v) (fun _=>rfl) (fun x y=>decide (x≤y)) ⟨_,Tryz.func141,by decide,rfl⟩
  (fun dQ off cap zs w h1 h2 h3=>Tryz.slices_Sort_int dQ off cap zs w h1 h2 h3) (fun p cap w=>Tryz.slices_Sort_int_none p cap w) id g l H hH hl
end Go.Proofs.YtjdfoonhnmpkdaaGreatDoor
