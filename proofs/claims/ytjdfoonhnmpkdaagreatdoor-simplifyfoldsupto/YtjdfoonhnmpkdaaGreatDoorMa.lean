/- A part of the proof: SvA, SvB, SvC, SvD, SvE, SvF, SvG, SvH. Names and spaces are cut short by program. -/
import Derived.Deep.AppendSrc
import Derived.Deep.MidRow
import Derived.RangeFuncLeaves
import Derived.Below
set_option linter.unusedSimpArgs false
set_option linter.unusedVariables false
set_option maxRecDepth 10000
set_option maxHeartbeats 4000000
namespace Go.Proofs.YtjdfoonhnmpkdaaGreatDoor
open Go
theorem fc {p0 p1 p2:Prop} (h0:p0) (h1:p1) (h2:p2):p0∧p1∧p2:=⟨h0,h1,h2⟩
theorem iY {p0 p1 p2 p3:Prop} (h0:p0) (h1:p1) (h2:p2) (h3:p3):p0∧p1∧p2∧p3:=⟨h0,h1,h2,h3⟩
theorem j8 {p0 p1 p2 p3 p4:Prop} (h0:p0) (h1:p1) (h2:p2) (h3:p3) (h4:p4):p0∧p1∧p2∧p3∧p4:=⟨h0,h1,h2,h3,h4⟩
theorem oD {p0 p1 p2 p3 p4 p5:Prop} (h0:p0) (h1:p1) (h2:p2) (h3:p3) (h4:p4) (h5:p5):p0∧p1∧p2∧p3∧p4∧p5:=⟨h0,h1,h2,h3,h4,h5⟩
theorem eu {p0 p1 p2 p3 p4 p5 p6:Prop} (h0:p0) (h1:p1) (h2:p2) (h3:p3) (h4:p4) (h5:p5) (h6:p6):p0∧p1∧p2∧p3∧p4∧p5∧p6:=⟨h0,h1,h2,h3,h4,h5,h6⟩
theorem FW {p0 p1 p2 p3 p4 p5 p6 p7:Prop} (h0:p0) (h1:p1) (h2:p2) (h3:p3) (h4:p4) (h5:p5) (h6:p6) (h7:p7):p0∧p1∧p2∧p3∧p4∧p5∧p6∧p7:=⟨h0,h1,h2,h3,h4,h5,h6,h7⟩
theorem C3 {p0 p1 p2 p3 p4 p5 p6 p7 p8:Prop} (h0:p0) (h1:p1) (h2:p2) (h3:p3) (h4:p4) (h5:p5) (h6:p6) (h7:p7) (h8:p8):p0∧p1∧p2∧p3∧p4∧p5∧p6∧p7∧p8:=⟨h0,h1,h2,h3,h4,h5,h6,h7,h8⟩
theorem wh {p0 p1 p2 p3 p4 p5 p6 p7 p8 p9:Prop} (h0:p0) (h1:p1) (h2:p2) (h3:p3) (h4:p4) (h5:p5) (h6:p6) (h7:p7) (h8:p8) (h9:p9):p0∧p1∧p2∧p3∧p4∧p5∧p6∧p7∧p8∧p9:=⟨h0,h1,h2,h3,h4,h5,h6,h7,h8,h9⟩
theorem Lb {p0 p1 p2 p3 p4 p5 p6 p7 p8 p9 p10:Prop} (h0:p0) (h1:p1) (h2:p2) (h3:p3) (h4:p4) (h5:p5) (h6:p6) (h7:p7) (h8:p8) (h9:p9) (h10:p10):p0∧p1∧p2∧p3∧p4∧p5∧p6∧p7∧p8∧p9∧p10:=⟨h0,h1,h2,h3,h4,h5,h6,h7,h8,h9,h10⟩
theorem ND {p0 p1 p2 p3 p4 p5 p6 p7 p8 p9 p10 p11:Prop} (h0:p0) (h1:p1) (h2:p2) (h3:p3) (h4:p4) (h5:p5) (h6:p6) (h7:p7) (h8:p8) (h9:p9) (h10:p10) (h11:p11):p0∧p1∧p2∧p3∧p4∧p5∧p6∧p7∧p8∧p9∧p10∧p11:=⟨h0,h1,h2,h3,h4,h5,h6,h7,h8,h9,h10,h11⟩
theorem R6 {p0 p1 p2 p3 p4 p5 p6 p7 p8 p9 p10 p11 p12:Prop} (h0:p0) (h1:p1) (h2:p2) (h3:p3) (h4:p4) (h5:p5) (h6:p6) (h7:p7) (h8:p8) (h9:p9) (h10:p10) (h11:p11) (h12:p12):p0∧p1∧p2∧p3∧p4∧p5∧p6∧p7∧p8∧p9∧p10∧p11∧p12:=⟨h0,h1,h2,h3,h4,h5,h6,h7,h8,h9,h10,h11,h12⟩
theorem QG {p0 p1 p2 p3 p4 p5 p6 p7 p8 p9 p10 p11 p12 p13:Prop} (h0:p0) (h1:p1) (h2:p2) (h3:p3) (h4:p4) (h5:p5) (h6:p6) (h7:p7) (h8:p8) (h9:p9) (h10:p10) (h11:p11) (h12:p12) (h13:p13):p0∧p1∧p2∧p3∧p4∧p5∧p6∧p7∧p8∧p9∧p10∧p11∧p12∧p13:=⟨h0,h1,h2,h3,h4,h5,h6,h7,h8,h9,h10,h11,h12,h13⟩
theorem R7 {p0 p1 p2 p3 p4 p5 p6 p7 p8 p9 p10 p11 p12 p13 p14:Prop} (h0:p0) (h1:p1) (h2:p2) (h3:p3) (h4:p4) (h5:p5) (h6:p6) (h7:p7) (h8:p8) (h9:p9) (h10:p10) (h11:p11) (h12:p12) (h13:p13) (h14:p14):p0∧p1∧p2∧p3∧p4∧p5∧p6∧p7∧p8∧p9∧p10∧p11∧p12∧p13∧p14:=⟨h0,h1,h2,h3,h4,h5,h6,h7,h8,h9,h10,h11,h12,h13,h14⟩
theorem R8 {p0 p1 p2 p3 p4 p5 p6 p7 p8 p9 p10 p11 p12 p13 p14 p15:Prop} (h0:p0) (h1:p1) (h2:p2) (h3:p3) (h4:p4) (h5:p5) (h6:p6) (h7:p7) (h8:p8) (h9:p9) (h10:p10) (h11:p11) (h12:p12) (h13:p13) (h14:p14) (h15:p15):p0∧p1∧p2∧p3∧p4∧p5∧p6∧p7∧p8∧p9∧p10∧p11∧p12∧p13∧p14∧p15:=⟨h0,h1,h2,h3,h4,h5,h6,h7,h8,h9,h10,h11,h12,h13,h14,h15⟩
theorem NF {p0 p1 p2 p3 p4 p5 p6 p7 p8 p9 p10 p11 p12 p13 p14 p15 p16:Prop} (h0:p0) (h1:p1) (h2:p2) (h3:p3) (h4:p4) (h5:p5) (h6:p6) (h7:p7) (h8:p8) (h9:p9) (h10:p10) (h11:p11) (h12:p12) (h13:p13) (h14:p14) (h15:p15) (h16:p16):p0∧p1∧p2∧p3∧p4∧p5∧p6∧p7∧p8∧p9∧p10∧p11∧p12∧p13∧p14∧p15∧p16:=⟨h0,h1,h2,h3,h4,h5,h6,h7,h8,h9,h10,h11,h12,h13,h14,h15,h16⟩
inductive SV where
 |undef
 |bool (b:Bool)
 |int (k:IntKind) (n:Int)
 |str (s:List UInt8)
 |agg (fs:List SV)
 |nil
 |list (sz:Nat) (xs:List SV)
 |gM (x:SV)
 |ptr (id g i off:Nat)
 |sl (id g off len:Nat)
 |map (id:Nat)
 |b9
 |bt
 |cZ
 |oI (z:Bool)
 |fn (f:Fn) (first cap:List SV)
 |tuple (xs:List SV)
 |it (id:Nat)
 |eC (b clk:Nat) (born:List Nat) (kd:Option IntKind) (ks vs:List SV)
 deriving Inhabited
inductive av where
 |cells (g sz:Nat) (vals:List SV)
 |map (kd:Option IntKind) (es:List (SV×SV))
 |obj (o:Obj)
 |dead
def av.isLive:av→Bool
 | .dead=>false
 |_=>true
def I8:Obj→Bool
 | .loop _=>true
 |_=>false
def Nk (o:Obj) (b:Nat):Value:=if I8 o then .func (.yield b) #[] #[] else .pointer (some ⟨b,0,none⟩)
structure Cx where
 θ:Nat→Option (Nat×Nat)
 H:List av
 w:World
def Cx.live (c:Cx) (id:Nat):Prop:=∃ b,c.H[id]? =some b∧b.isLive=true
def Cx.own (c:Cx) (b:Nat):Prop:=∃ id o,c.live id∧c.θ id=some (b,o)
def Cx.qZ (c:Cx) (b:Nat):Prop:=b<c.w.heap.size∧¬ c.own b
def cellsOf (vs:List Value):List Value:=vs.flatMap (·.cells.toList)
def cq (v:Value):Prop:=∀ x∈v.cells.toList,x.oneCell'=true
def eU (kd:Option IntKind) (x:SV):Bool:=
 match kd,x with
 |some k,.int i _=>decide (i=k)
 |none,.str _=>true
 |_,_=>false
def tQ (ents:List MapEntry) (clk:Nat):Prop:=(∀ e∈ents,e.born<clk)∧(ents.map (·.born)).Nodup∧clk=ents.length∧ents.map (·.born)=List.range ents.length
mutual
def aB (c:Cx):SV→Value→Prop
 | .undef,v=>v=undef
 | .bool b,v=>v= .bool b
 | .int k n,v=>v= .int k n∧k.min≤n∧n≤k.max
 | .str s,v=>v= .string ⟨⟨s⟩⟩∧s.length≤maxLen
 | .agg fs,v=>∃ vs,ax c fs vs∧(∀ u∈vs,u.oneCell'=true)∧v= .agg vs.toArray
 | .nil,v=>v= .slice none 0 0
 | .list sz xs,v=>∃ a cap,v= .slice a xs.length cap∧xs.length≤cap∧cap≤maxLen∧
  (xs=[]∨∃ b o vs,a=some ⟨b,o,none⟩∧ax c xs vs∧(∀ u∈vs,u.cells.size=sz∧cq u)∧c.w.rangeAt b o (cellsOf vs)∧c.qZ b)
 | .gM x,v=>∃ b o u,v= .pointer (some ⟨b,o,none⟩)∧aB c x u∧cq u∧c.w.rangeAt b o u.cells.toList∧c.qZ b
 | .ptr id g i off,v=>v.oneCell'=true∧match c.H[id]? with
  |some (.cells g' sz vals)=>g<g'∨(g=g'∧i<vals.length∧∃ b o,c.θ id=some (b,o)∧v= .pointer (some ⟨b,o+i*sz+off,none⟩))
  |some .dead=>True
  |_=>False
 | .sl id g off len,v=>v.oneCell'=true∧match c.H[id]? with
  |some (.cells g' sz vals)=>g<g'∨(g=g'∧off+len≤vals.length∧∃ a cap,v= .slice a len cap∧len≤cap∧cap≤maxLen∧
   ((cap=0∧(sz=0∨vals.length≤off))∨∃ b o cs T fr,c.θ id=some (b,o)∧a=some ⟨b,o+off*sz,none⟩∧c.w.heap[b]? =some (.cells cs T fr)∧o+(off+cap)*sz=cs.size))
  |some .dead=>True
  |_=>False
 | .map id,v=>v.oneCell'=true∧match c.H[id]? with
  |some (.map _ _)=>∃ b,c.θ id=some (b,0)∧v= .map (some b)
  |some .dead=>True
  |_=>False
 | .b9,v=>v= .map none
 | .bt,v=>v= .pointer none
 | .cZ,v=>v= .nilFunc
 | .oI z,v=>match z with
  |true=>v= .nilIface
  |false=>∃ te pe,v= .iface te pe
 | .fn f fs cs,v=>∃ us vs,ax c fs us∧ax c cs vs∧v= .func f us.toArray vs.toArray
 | .tuple xs,v=>∃ vs,ax c xs vs∧v= .tuple vs.toArray
 | .it id,v=>v.oneCell'=true∧match c.H[id]? with
  |some (.obj o)=>∃ b,c.θ id=some (b,0)∧v=Nk o b
  |some .dead=>True
  |_=>False
 | .eC b clk born kd ks vs,v=>v= .map (some b)∧c.qZ b∧∃ ents:Array MapEntry,c.w.heap[b]? =some (.map ents clk)∧tQ ents.toList clk∧ents.toList.map (·.born)=born∧
  ax c ks (ents.toList.map (·.key))∧ax c vs (ents.toList.map (·.val))∧∀ x∈ks,eU kd x=true
def ax (c:Cx):List SV→List Value→Prop
 |[],vs=>vs=[]
 |x::xs,vs=>∃ u us,aB c x u∧ax c xs us∧vs=u::us
end
def cg (c:Cx):List (SV×SV)→List MapEntry→Prop
 |[],es=>es=[]
 |(k,x)::r,es=>∃ e es',aB c k e.key∧aB c x e.val∧cg c r es'∧es=e::es'
def gn (cs:Array Value) (fr:Nat×Nat):Prop:=fr.1=fr.2∨cs.size≤fr.1
def dX (c:Cx) (id:Nat):av→Prop
 | .cells _ sz vals=>(c.θ id=none∧vals=[])∨∃ b o cs T fr vs,c.θ id=some (b,o)∧c.w.heap[b]? =some (.cells cs T fr)∧gn cs fr∧
  ax c vals vs∧(∀ u∈vs,u.cells.size=sz∧cq u)∧c.w.rangeAt b o (cellsOf vs)
 | .map kd es=>∃ b ents clk,c.θ id=some (b,0)∧c.w.heap[b]? =some (.map ents clk)∧cg c es ents.toList∧(∀ p∈es,eU kd p.1=true)∧tQ ents.toList clk
 | .obj o=>∃ b,c.θ id=some (b,0)∧c.w.heap[b]? =some o∧∀ ds,o≠ .deferred ds
 | .dead=>True
structure aM (c:Cx):Prop where
 dQ:∀ id B,c.H[id]? =some B→dX c id B
 inj:∀ i j b o o',c.live i→c.live j→c.θ i=some (b,o)→c.θ j=some (b,o')→i=j
def fG (n:Nat) (θ θ':Option (Nat×Nat)):av→av→Prop
 | .dead,B'=>B'= .dead
 | .cells g sz vals,B'=>∃ g' vals',B'= .cells g' sz vals'∧g≤g'∧(g=g'→θ'=θ∧vals'.length=vals.length)∧
  (∀ b o,θ'=some (b,o)→n≤b∨∃ o0,θ=some (b,o0))
 | .map kd _,B'=>(∃ es',B'= .map kd es')∧θ'=θ
 | .obj o,B'=>(∃ o',B'= .obj o'∧I8 o'=I8 o)∧θ'=θ
structure Grow (c c':Cx):Prop where
 os:c'.w.os=c.w.os
 tape:c'.w.tape=c.w.tape
 output:c'.w.output=c.w.output
 size:c.w.heap.size≤c'.w.heap.size
 Fz:∀ b,b<c.w.heap.size→¬ c.own b→c'.w.heap[b]? =c.w.heap[b]?
 shape:∀ (b:Nat) (cs:Array Value) (T:TypeId) (fr:Nat×Nat),c.w.heap[b]? =some (Obj.cells cs T fr)→∃ (cs':Array Value) (fr':Nat×Nat),c'.w.heap[b]? =some (Obj.cells cs' T fr')∧cs'.size=cs.size
 ids:∀ (id:Nat) (B:av),c.H[id]? =some B→∃ B',c'.H[id]? =some B'∧fG c.w.heap.size (c.θ id) (c'.θ id) B B'
 new:∀ (id b o:Nat),c.H[id]? =none→c'.live id→c'.θ id=some (b,o)→c.w.heap.size≤b
theorem Grow.own {c c':Cx} (h:Grow c c') {b:Nat} (ho:c'.own b):c.own b∨c.w.heap.size≤b:=by
 obtain⟨id,o,hl,ht⟩:=ho
 cases hB:c.H[id]? with
 |none=>exact .inr (h.new id b o hB hl ht)
 |some B=>
  obtain⟨B',hB',hlt⟩:=h.ids id B hB
  obtain⟨B2,h2,hlive⟩:=hl
  rw[hB'] at h2
  cases h2
  cases B with
  |dead=>simp only[fG] at hlt;subst hlt;cases hlive
  |cells g sz vals=>
   obtain⟨g',vals',rfl,_,_,h3⟩:=hlt
   rcases h3 b o ht with h3|⟨o0,h3⟩
   ·exact .inr h3
   ·exact .inl ⟨id,o0,⟨_,hB,rfl⟩,h3⟩
  |map _ es=>exact .inl ⟨id,o,⟨_,hB,rfl⟩,hlt.2 ▸ ht⟩
  |obj es=>exact .inl ⟨id,o,⟨_,hB,rfl⟩,hlt.2 ▸ ht⟩
theorem Grow.qZ {c c':Cx} (h:Grow c c') {b:Nat} (hb:c.qZ b):c'.qZ b:=by
 refine⟨Nat.lt_of_lt_of_le hb.1 h.size,fun ho=>?_⟩
 rcases h.own ho with h1|h1
 ·exact hb.2 h1
 ·exact absurd hb.1 (by omega)
theorem Grow.jq {c c':Cx} (h:Grow c c') {b:Nat} (hb:c.qZ b):c'.w.heap[b]? =c.w.heap[b]? :=h.Fz b hb.1 hb.2
theorem lN {w w':World} {b o:Nat} {cs:List Value} (h:w.rangeAt b o cs) (hb:w'.heap[b]? =w.heap[b]?):w'.rangeAt b o cs:=
 fun j v hv=>by rw[World.cell?_of_block (w:=w) (w':=w') hb];exact h j v hv
theorem aB.IV {c c':Cx} (hg:Grow c c') {id g i off:Nat} {v:Value} (h:aB c (.ptr id g i off) v):aB c' (.ptr id g i off) v:=by
 simp only[aB] at h ⊢
 refine⟨h.1,?_⟩
 replace h:=h.2
 cases hB:c.H[id]? with
 |none=>simp[hB] at h
 |some B=>
  obtain⟨B',hB',hl⟩:=hg.ids id B hB
  rw[hB']
  simp only[hB] at h
  cases B with
  |dead=>simp only[fG] at hl;subst hl;trivial
  |map _ es=>exact h.elim
  |obj es=>exact h.elim
  |cells g0 sz vals=>
   obtain⟨g',vals',rfl,hle,hsame,_⟩:=hl
   simp only at h ⊢
   rcases h with h|⟨rfl,h1,b,o,h2,h3⟩
   ·exact .inl (by omega)
   ·by_cases hgg:g=g'
    ·obtain⟨ht,hlen⟩:=hsame hgg
     exact .inr ⟨hgg,by omega,b,o,by rw[ht];exact h2,h3⟩
    ·exact .inl (by omega)
theorem aB.L8 {c c':Cx} (hg:Grow c c') {id g off len:Nat} {v:Value} (h:aB c (.sl id g off len) v):aB c' (.sl id g off len) v:=by
 simp only[aB] at h ⊢
 refine⟨h.1,?_⟩
 replace h:=h.2
 cases hB:c.H[id]? with
 |none=>simp[hB] at h
 |some B=>
  obtain⟨B',hB',hl⟩:=hg.ids id B hB
  rw[hB']
  simp only[hB] at h
  cases B with
  |dead=>simp only[fG] at hl;subst hl;trivial
  |map _ es=>exact h.elim
  |obj es=>exact h.elim
  |cells g0 sz vals=>
   obtain⟨g',vals',rfl,hle,hsame,_⟩:=hl
   simp only at h ⊢
   rcases h with h|⟨rfl,h1,a,cap,h2,h3,h4,h5⟩
   ·exact .inl (by omega)
   ·by_cases hgg:g=g'
    ·obtain⟨ht,hlen⟩:=hsame hgg
     refine .inr ⟨hgg,by omega,a,cap,h2,h3,h4,?_⟩
     rcases h5 with h5|⟨b,o,cs,T,fr,h5,h6,h7,h8⟩
     ·exact .inl ⟨h5.1,by omega⟩
     ·obtain⟨cs',fr',h9,h10⟩:=hg.shape b cs T fr h7
      exact .inr ⟨b,o,cs',T,fr',by rw[ht];exact h5,h6,h9,by omega⟩
    ·exact .inl (by omega)
theorem aB.IU {c c':Cx} (hg:Grow c c') {id:Nat} {v:Value} (h:aB c (.map id) v):aB c' (.map id) v:=by
 simp only[aB] at h ⊢
 refine⟨h.1,?_⟩
 replace h:=h.2
 cases hB:c.H[id]? with
 |none=>simp[hB] at h
 |some B=>
  obtain⟨B',hB',hl⟩:=hg.ids id B hB
  rw[hB']
  simp only[hB] at h
  cases B with
  |dead=>simp only[fG] at hl;subst hl;trivial
  |cells _ _ _=>exact h.elim
  |obj es=>exact h.elim
  |map _ es=>
   obtain⟨⟨es',rfl⟩,ht⟩:=hl
   simp only at h ⊢
   rw[ht];exact h
theorem aB.L7 {c c':Cx} (hg:Grow c c') {id:Nat} {v:Value} (h:aB c (.it id) v):aB c' (.it id) v:=by
 simp only[aB] at h ⊢
 refine⟨h.1,?_⟩
 replace h:=h.2
 cases hB:c.H[id]? with
 |none=>simp[hB] at h
 |some B=>
  obtain⟨B',hB',hl⟩:=hg.ids id B hB
  rw[hB']
  simp only[hB] at h
  cases B with
  |dead=>simp only[fG] at hl;subst hl;trivial
  |cells _ _ _=>exact h.elim
  |map _ es=>exact h.elim
  |obj es=>
   obtain⟨⟨es',rfl,hlp⟩,ht⟩:=hl
   simp only[Nk,hlp] at h ⊢
   rw[ht];exact h
theorem SV.both {p:SV→Prop} {q:List SV→Prop}
 (leaf:∀ x,(∀ fs,x≠ .agg fs)→(∀ n xs,x≠ .list n xs)→(∀ y,x≠ .gM y)→(∀ f a b,x≠ .fn f a b)→(∀ xs,x≠ .tuple xs)→(∀ b clk born kd ks vs,x≠ .eC b clk born kd ks vs)→p x)
 (agg:∀ fs,q fs→p (.agg fs)) (list:∀ n xs,q xs→p (.list n xs)) (gM:∀ x,p x→p (.gM x))
 (fn:∀ f a b,q a→q b→p (.fn f a b)) (tuple:∀ xs,q xs→p (.tuple xs)) (eC:∀ b clk born kd ks vs,q ks→q vs→p (.eC b clk born kd ks vs)) (nil:q []) (cons:∀ x xs,p x→q xs→q (x::xs)):(∀ x,p x)∧(∀ xs,q xs):=by
 have h:∀ x,p x:=fun x=>SV.rec (motive_1:=p) (motive_2:=q) (leaf _ (by simp) (by simp) (by simp) (by simp) (by simp) (by simp)) (fun b=>leaf _ (by simp) (by simp) (by simp) (by simp) (by simp) (by simp))
  (fun k n=>leaf _ (by simp) (by simp) (by simp) (by simp) (by simp) (by simp)) (fun s=>leaf _ (by simp) (by simp) (by simp) (by simp) (by simp) (by simp)) agg (leaf _ (by simp) (by simp) (by simp) (by simp) (by simp) (by simp)) list gM
  (fun _ _ _ _=>leaf _ (by simp) (by simp) (by simp) (by simp) (by simp) (by simp)) (fun _ _ _ _=>leaf _ (by simp) (by simp) (by simp) (by simp) (by simp) (by simp)) (fun _=>leaf _ (by simp) (by simp) (by simp) (by simp) (by simp) (by simp))
  (leaf _ (by simp) (by simp) (by simp) (by simp) (by simp) (by simp)) (leaf _ (by simp) (by simp) (by simp) (by simp) (by simp) (by simp)) (leaf _ (by simp) (by simp) (by simp) (by simp) (by simp) (by simp)) (fun _=>leaf _ (by simp) (by simp) (by simp) (by simp) (by simp) (by simp)) fn tuple
  (fun _=>leaf _ (by simp) (by simp) (by simp) (by simp) (by simp) (by simp)) (fun b clk born kd ks vs=>eC b clk born kd ks vs) nil cons x
 refine⟨h,fun xs=>?_⟩
 induction xs with
 |nil=>exact nil
 |cons x xs ih=>exact cons x xs (h x) ih
theorem aB.xx {c c':Cx} (hg:Grow c c'):(∀ x v,aB c x v→aB c' x v)∧(∀ xs vs,ax c xs vs→ax c' xs vs):=by
 apply SV.both
 ·intro x h1 h2 h3 h4 h5 h6 v h
  cases x with
  |agg fs=>exact absurd rfl (h1 fs)
  |list n xs=>exact absurd rfl (h2 n xs)
  |gM y=>exact absurd rfl (h3 y)
  |fn f a b=>exact absurd rfl (h4 f a b)
  |tuple xs=>exact absurd rfl (h5 xs)
  |eC b clk born kd ks vs=>exact absurd rfl (h6 b clk born kd ks vs)
  |ptr id g i off=>exact aB.IV hg h
  |sl id g off len=>exact aB.L8 hg h
  |map id=>exact aB.IU hg h
  |it id=>exact aB.L7 hg h
  |_=>exact h
 ·intro fs ih v h
  simp only[aB] at h ⊢
  obtain⟨vs,h1,h2⟩:=h
  exact⟨vs,ih vs h1,h2⟩
 ·intro sz xs ih v h
  simp only[aB] at h ⊢
  obtain⟨a,cap,h0,h1,h2,h3⟩:=h
  refine⟨a,cap,h0,h1,h2,?_⟩
  rcases h3 with h3|⟨b,o,vs,h3,h4,h5,h6,h7⟩
  ·exact .inl h3
  ·exact .inr ⟨b,o,vs,h3,ih vs h4,h5,lN h6 (hg.jq h7),hg.qZ h7⟩
 ·intro x ih v h
  simp only[aB] at h ⊢
  obtain⟨b,o,u,h0,h1,h2,h3,h4⟩:=h
  exact⟨b,o,u,h0,ih u h1,h2,lN h3 (hg.jq h4),hg.qZ h4⟩
 ·intro f fs cs ih1 ih2 v h
  simp only[aB] at h ⊢
  obtain⟨us,vs,h0,h1,h2⟩:=h
  exact⟨us,vs,ih1 us h0,ih2 vs h1,h2⟩
 ·intro xs ih v h
  simp only[aB] at h ⊢
  obtain⟨vs,h0,h1⟩:=h
  exact⟨vs,ih vs h0,h1⟩
 ·intro b clk born kd ks vs ih1 ih2 v h
  simp only[aB] at h ⊢
  obtain⟨h0,h1,ents,h2,h3,h4,h5,h6,h7⟩:=h
  exact⟨h0,hg.qZ h1,ents,(hg.jq h1).trans h2,h3,h4,ih1 _ h5,ih2 _ h6,h7⟩
 ·intro vs h;simpa [ax] using h
 ·intro x xs ih1 ih2 vs h
  simp only[ax] at h ⊢
  obtain⟨u,us,h1,h2,h3⟩:=h
  exact⟨u,us,ih1 u h1,ih2 us h2,h3⟩
theorem aB.grow {c c':Cx} (hg:Grow c c') {x:SV} {v:Value} (h:aB c x v):aB c' x v:=(aB.xx hg).1 x v h
theorem ax.grow {c c':Cx} (hg:Grow c c') {xs:List SV} {vs:List Value} (h:ax c xs vs):ax c' xs vs:=(aB.xx hg).2 xs vs h
theorem cg.grow {c c':Cx} (hg:Grow c c'):∀ (xs:List (SV×SV)) (vs:List MapEntry),cg c xs vs→cg c' xs vs
 |[],_,h=>by simpa [cg] using h
 |(k,x)::xs,vs,h=>by
  simp only[cg] at h ⊢
  obtain⟨e,es,h1,h2,h3,h4⟩:=h
  exact⟨e,es,aB.grow hg h1,aB.grow hg h2,cg.grow hg xs es h3,h4⟩
theorem fG.refl (n:Nat) (θ:Option (Nat×Nat)) (B:av):fG n θ θ B B:=by
 cases B with
 |dead=>rfl
 |cells g sz vals=>exact⟨g,vals,rfl,Nat.le_refl _,fun _=>⟨rfl,rfl⟩,fun b o h=> .inr ⟨o,h⟩⟩
 |map _ es=>exact⟨⟨es,rfl⟩,rfl⟩
 |obj es=>exact⟨⟨es,rfl,rfl⟩,rfl⟩
theorem Grow.refl (c:Cx):Grow c c:=
 ⟨rfl,rfl,rfl,Nat.le_refl _,fun _ _ _=>rfl,fun _ cs _ fr h=>⟨cs,fr,h,rfl⟩,fun _ B h=>⟨B,h,fG.refl _ _ _⟩,
  fun id b o h hl _=>by obtain⟨B,hB,_⟩:=hl;rw[h] at hB;cases hB⟩
theorem fG.trans {n m:Nat} {t1 t2 t3:Option (Nat×Nat)} {A B C:av} (hnm:n≤m) (h1:fG n t1 t2 A B) (h2:fG m t2 t3 B C):fG n t1 t3 A C:=by
 cases A with
 |dead=>simp only[fG] at h1;subst h1;exact h2
 |map _ es=>obtain⟨⟨es',rfl⟩,rfl⟩:=h1;exact h2
 |obj es=>
  obtain⟨⟨es',rfl,e1⟩,rfl⟩:=h1
  obtain⟨⟨es2,rfl,e2⟩,h3⟩:=h2
  exact⟨⟨es2,rfl,e2.trans e1⟩,h3⟩
 |cells g sz vals=>
  obtain⟨g',vals',rfl,a1,a2,a3⟩:=h1
  obtain⟨g2,vals2,rfl,b1,b2,b3⟩:=h2
  refine⟨g2,vals2,rfl,Nat.le_trans a1 b1,fun e=>?_,fun b o hb=>?_⟩
  ·obtain⟨x1,x2⟩:=a2 (by omega)
   obtain⟨y1,y2⟩:=b2 (by omega)
   exact⟨y1.trans x1,by omega⟩
  ·rcases b3 b o hb with h|⟨o0,h⟩
   ·exact .inl (by omega)
   ·exact a3 b o0 h
theorem Grow.trans {a b c:Cx} (h1:Grow a b) (h2:Grow b c):Grow a c:=by
 refine⟨h2.os.trans h1.os,h2.tape.trans h1.tape,h2.output.trans h1.output,Nat.le_trans h1.size h2.size,?_,?_,?_,?_⟩
 ·intro x hx ho
  have hb:b.qZ x:=h1.qZ ⟨hx,ho⟩
  rw[h2.jq hb,h1.Fz x hx ho]
 ·intro x cs T fr h
  obtain⟨cs',fr',h3,h4⟩:=h1.shape x cs T fr h
  obtain⟨cs2,fr2,h5,h6⟩:=h2.shape x cs' T fr' h3
  exact⟨cs2,fr2,h5,by omega⟩
 ·intro id B hB
  obtain⟨B',hB',hl⟩:=h1.ids id B hB
  obtain⟨B2,hB2,hl2⟩:=h2.ids id B' hB'
  exact⟨B2,hB2,hl.trans h1.size hl2⟩
 ·intro id x o hn hl ht
  cases hB:b.H[id]? with
  |none=>exact Nat.le_trans h1.size (h2.new id x o hB hl ht)
  |some B=>
   obtain⟨B',hB',hlt⟩:=h2.ids id B hB
   obtain⟨B2,hB2,hlv⟩:=hl
   rw[hB'] at hB2
   cases hB2
   have hbl:b.live id→a.w.heap.size≤x∨b.w.heap.size≤x:=fun hbl=>by
    have hco:c.own x:=⟨id,o,⟨_,hB',hlv⟩,ht⟩
    cases B with
    |dead=>simp only[fG] at hlt;subst hlt;cases hlv
    |map _ es=>obtain⟨_,e⟩:=hlt;exact .inl (h1.new id x o hn hbl (e ▸ ht))
    |obj es=>obtain⟨_,e⟩:=hlt;exact .inl (h1.new id x o hn hbl (e ▸ ht))
    |cells g sz vals=>
     obtain⟨g',vals',rfl,_,_,h3⟩:=hlt
     rcases h3 x o ht with h3|⟨o0,h3⟩
     ·exact .inr h3
     ·exact .inl (h1.new id x o0 hn hbl h3)
   have hbl':b.live id:=by
    refine⟨B,hB,?_⟩
    cases B with
    |dead=>simp only[fG] at hlt;subst hlt;cases hlv
    |_=>rfl
   rcases hbl hbl' with h|h
   ·exact h
   ·exact Nat.le_trans h1.size h
theorem ax.dm {c:Cx} {vs:List Value}:ax c [] vs↔vs=[]:=by simp[ax]
theorem ax.bg {c:Cx} {x:SV} {xs:List SV} {vs:List Value}:ax c (x::xs) vs↔∃ u us,aB c x u∧ax c xs us∧vs=u::us:=by simp[ax]
theorem ax.bQ {c:Cx}:ax c [] []:=by simp[ax]
theorem ax.bG {c:Cx} {x:SV} {xs:List SV} {u:Value} {us:List Value} (h:aB c x u) (t:ax c xs us):ax c (x::xs) (u::us):=ax.bg.2 ⟨u,us,h,t,rfl⟩
theorem ax.length {c:Cx}:∀ {xs:List SV} {vs:List Value},ax c xs vs→vs.length=xs.length
 |[],vs,h=>by rw[ax.dm.1 h];rfl
 |x::xs,vs,h=>by obtain⟨u,us,_,h2,rfl⟩:=ax.bg.1 h;simp[ax.length h2]
theorem ax.get {c:Cx}:∀ {xs:List SV} {vs:List Value},ax c xs vs→∀ {i:Nat} {x:SV},xs[i]? =some x→∃ v,vs[i]? =some v∧aB c x v
 |[],_,_,i,x,hx=>by simp at hx
 |y::xs,vs,h,i,x,hx=>by
  obtain⟨u,us,h1,h2,rfl⟩:=ax.bg.1 h
  cases i with
  |zero=>simp at hx;subst hx;exact⟨u,rfl,h1⟩
  |succ i=>simp at hx;obtain⟨v,h3,h4⟩:=ax.get h2 hx;exact⟨v,by simpa using h3,h4⟩
theorem ax.append {c:Cx}:∀ {xs ys:List SV} {us vs:List Value},ax c xs us→ax c ys vs→ax c (xs++ys) (us++vs)
 |[],_,us,_,h,h'=>by rw[ax.dm.1 h];simpa using h'
 |x::xs,_,us,_,h,h'=>by obtain⟨u,us,h1,h2,rfl⟩:=ax.bg.1 h;exact ax.bG h1 (ax.append h2 h')
theorem ax.take {c:Cx}:∀ {xs:List SV} {us:List Value} (n:Nat),ax c xs us→ax c (xs.take n) (us.take n)
 |[],us,n,h=>by rw[ax.dm.1 h];simpa using ax.bQ
 |x::xs,us,n,h=>by
  obtain⟨u,us,h1,h2,rfl⟩:=ax.bg.1 h
  cases n with
  |zero=>exact ax.bQ
  |succ n=>exact ax.bG h1 (ax.take n h2)
theorem ax.drop {c:Cx}:∀ {xs:List SV} {us:List Value} (n:Nat),ax c xs us→ax c (xs.drop n) (us.drop n)
 |[],us,n,h=>by rw[ax.dm.1 h];simpa using ax.bQ
 |x::xs,us,n,h=>by
  cases n with
  |zero=>exact h
  |succ n=>obtain⟨u,us,h1,h2,rfl⟩:=ax.bg.1 h;exact ax.drop n h2
theorem ax.set {c:Cx}:∀ {xs:List SV} {us:List Value} (n:Nat) {x:SV} {u:Value},ax c xs us→aB c x u→ax c (xs.set n x) (us.set n u)
 |[],us,n,_,_,h,_=>by rw[ax.dm.1 h];simpa using ax.bQ
 |x::xs,us,n,_,_,h,hx=>by
  obtain⟨u,us,h1,h2,rfl⟩:=ax.bg.1 h
  cases n with
  |zero=>exact ax.bG hx h2
  |succ n=>exact ax.bG h1 (ax.set n h2 hx)
theorem ax.split {c:Cx}:∀ {xs ys:List SV} {vs:List Value},ax c (xs++ys) vs→∃ us ws,ax c xs us∧ax c ys ws∧vs=us++ws
 |[],_,vs,h=>⟨[],vs,ax.bQ,h,rfl⟩
 |x::xs,_,vs,h=>by
  obtain⟨u,us,h1,h2,rfl⟩:=ax.bg.1 h
  obtain⟨a,b,h3,h4,rfl⟩:=ax.split h2
  exact⟨u::a,b,ax.bG h1 h3,h4,rfl⟩
theorem ez (v:Value) (vs:List Value):cellsOf (v::vs)=v.cells.toList++cellsOf vs:=by simp[cellsOf]
theorem bS (us vs:List Value):cellsOf (us++vs)=cellsOf us++cellsOf vs:=by simp[cellsOf]
theorem ba {sz:Nat}:∀ {vs:List Value},(∀ u∈vs,u.cells.size=sz)→(cellsOf vs).length=vs.length*sz
 |[],_=>by simp[cellsOf]
 |v::vs,h=>by
  rw[ez,List.length_append,ba (fun u hu=>h u (by simp[hu])),Array.length_toList,h v (by simp),List.length_cons,Nat.succ_mul]
  omega
theorem mj {sz:Nat}:∀ {vs:List Value},(∀ u∈vs,u.cells.size=sz)→∀ {i:Nat} {u:Value},vs[i]? =some u→∀ {j:Nat} {x:Value},u.cells.toList[j]? =some x→(cellsOf vs)[i*sz+j]? =some x
 |[],_,i,u,h,_,_,_=>by simp at h
 |v::vs,hu,i,u,h,j,x,hx=>by
  have hv:v.cells.toList.length=sz:=by rw[Array.length_toList];exact hu v (by simp)
  rw[ez]
  cases i with
  |zero=>
   simp at h;subst h
   rw[Nat.zero_mul,Nat.zero_add,List.getElem?_append_left (List.getElem?_eq_some_iff.1 hx).1]
   exact hx
  |succ i=>
   rw[Nat.succ_mul,List.getElem?_append_right (by omega)]
   rw[show i*sz+sz+j - v.cells.toList.length=i*sz+j by omega]
   exact mj (fun u h=>hu u (by simp[h])) (by simpa using h) hx
theorem iO {w:World} {b o sz:Nat} {vs:List Value} (hr:w.rangeAt b o (cellsOf vs)) (hu:∀ u∈vs,u.cells.size=sz) {i:Nat} {u:Value} (h:vs[i]? =some u):w.rangeAt b (o+i*sz) u.cells.toList:=
 fun j x hx=>by rw[Nat.add_assoc];exact hr _ x (mj hu h hx)
theorem lO {w:World} {b o:Nat} {xs ys:List Value} (h:w.rangeAt b o (xs++ys)):w.rangeAt b o xs:=
 fun j v hv=>h j v (by rw[List.getElem?_append_left (List.getElem?_eq_some_iff.1 hv).1];exact hv)
theorem oN {w:World} {b o:Nat} {xs ys:List Value} (h:w.rangeAt b o (xs++ys)):w.rangeAt b (o+xs.length) ys:=
 fun j v hv=>by rw[Nat.add_assoc];exact h _ v (by rw[List.getElem?_append_right (by omega),Nat.add_sub_cancel_left];exact hv)
theorem gq {w:World} {b o:Nat} {xs ys:List Value} (h:w.rangeAt b o xs) (h':w.rangeAt b (o+xs.length) ys):w.rangeAt b o (xs++ys):=
 fun j v hv=>by
  by_cases hj:j<xs.length
  ·rw[List.getElem?_append_left hj] at hv;exact h j v hv
  ·rw[List.getElem?_append_right (by omega)] at hv
   have:=h' _ v hv
   rwa[show o+xs.length+(j - xs.length)=o+j by omega] at this
theorem fm {w:World} {b o sz:Nat} {vs:List Value} (hr:w.rangeAt b o (cellsOf vs)) (hu:∀ u∈vs,u.cells.size=sz) (i:Nat) (hi:i≤vs.length):w.rangeAt b (o+i*sz) (cellsOf (vs.drop i)):=by
 have h:=List.take_append_drop i vs
 have hl:(cellsOf (vs.take i)).length=i*sz:=by
  rw[ba (sz:=sz) (fun u h=>hu u (List.mem_of_mem_take h)),List.length_take,Nat.min_eq_left (by omega)]
 rw[← h,bS] at hr
 rw[← hl]
 exact oN hr
theorem iP {w:World} {b o:Nat} {vs:List Value} (hr:w.rangeAt b o (cellsOf vs)) (i:Nat):w.rangeAt b o (cellsOf (vs.take i)):=by
 have h:=List.take_append_drop i vs
 rw[← h,bS] at hr
 exact lO hr
theorem dX.jq {c c':Cx} (hg:Grow c c') {j:Nat} {B:av} (h:dX c j B) (hθ:c'.θ j=c.θ j) (hb:∀ b o,c.θ j=some (b,o)→c'.w.heap[b]? =c.w.heap[b]?):dX c' j B:=by
 cases B with
 |dead=>trivial
 |obj o=>
  obtain⟨b,h1,h2,h3⟩:=h
  exact⟨b,hθ.trans h1,(hb b 0 h1).trans h2,h3⟩
 |map _ es=>
  obtain⟨b,ents,clk,h1,h2,h3,h4⟩:=h
  exact⟨b,ents,clk,hθ.trans h1,(hb b 0 h1).trans h2,cg.grow hg es _ h3,h4⟩
 |cells g sz vals=>
  rcases h with⟨h1,h2⟩|⟨b,o,cs,T,fr,vs,h1,h2,h3,h4,h5,h6⟩
  ·exact .inl ⟨hθ.trans h1,h2⟩
  ·exact .inr ⟨b,o,cs,T,fr,vs,hθ.trans h1,(hb b o h1).trans h2,h3,h4.grow hg,h5,lN h6 (hb b o h1)⟩
theorem dX.lt {c:Cx} {j:Nat} {B:av} (h:dX c j B) (hl:B.isLive=true) {b o:Nat} (hb:c.θ j=some (b,o)):b<c.w.heap.size:=by
 cases B with
 |dead=>cases hl
 |obj _=>obtain⟨b',h1,h2,_⟩:=h;rw[hb] at h1;cases h1;exact(Array.getElem?_eq_some_iff.1 h2).1
 |map _ _=>obtain⟨b',_,_,h1,h2,_⟩:=h;rw[hb] at h1;cases h1;exact(Array.getElem?_eq_some_iff.1 h2).1
 |cells _ _ _=>
  rcases h with⟨h1,_⟩|⟨b',o',_,_,_,_,h1,h2,_⟩
  ·rw[hb] at h1;cases h1
  ·rw[hb] at h1;cases h1;exact(Array.getElem?_eq_some_iff.1 h2).1
theorem Cx.world {c:Cx} (hc:aM c) {w':World} (h:∀ b,b<c.w.heap.size→w'.heap[b]? =c.w.heap[b]?) (hs:c.w.heap.size≤w'.heap.size) (ho:w'.os=c.w.os) (ht:w'.tape=c.w.tape) (hou:w'.output=c.w.output):
 Grow c { c with w:=w'}∧aM { c with w:=w'}:=by
 have hg:Grow c { c with w:=w'}:=by
  refine⟨ho,ht,hou,hs,fun b hb _=>h b hb,fun b cs T fr hb=>⟨cs,fr,?_,rfl⟩,fun id B hB=>⟨B,hB,fG.refl _ _ _⟩,fun id b o hn hl _=>?_⟩
  ·show w'.heap[b]? =_
   rw[h b (Array.getElem?_eq_some_iff.1 hb).1];exact hb
  ·obtain⟨B,hB,_⟩:=hl
   rw[show({ c with w:=w'}:Cx).H[id]? =c.H[id]? from rfl,hn] at hB;cases hB
 refine⟨hg,⟨fun id B hB=>?_,hc.inj⟩⟩
 have hB':c.H[id]? =some B:=hB
 have this:=hc.dQ id B hB'
 by_cases hd:B.isLive=true
 ·refine dX.jq hg this rfl fun b o hb=>h b ?_
  exact dX.lt this hd hb
 ·cases B with
  |dead=>trivial
  |_=>exact absurd rfl hd
theorem Cx.fresh {c:Cx} (hc:aM c) {w':World} (b0:Nat) (hb0:c.w.heap.size≤b0) (o0:Nat) (θ0:Option (Nat×Nat)) (hθ0:θ0=none∨θ0=some (b0,o0)) (B:av)
 (h:∀ b,b<c.w.heap.size→w'.heap[b]? =c.w.heap[b]?) (hs:c.w.heap.size≤w'.heap.size) (ho:w'.os=c.w.os) (ht:w'.tape=c.w.tape) (hou:w'.output=c.w.output)
 (hB:Grow c { θ:=fun i=>if i=c.H.length then θ0 else c.θ i,H:=c.H++[B],w:=w'}→dX { θ:=fun i=>if i=c.H.length then θ0 else c.θ i,H:=c.H++[B],w:=w'} c.H.length B):
 Grow c { θ:=fun i=>if i=c.H.length then θ0 else c.θ i,H:=c.H++[B],w:=w'}∧aM { θ:=fun i=>if i=c.H.length then θ0 else c.θ i,H:=c.H++[B],w:=w'}:=by
 have hold:∀ id B',c.H[id]? =some B'→id<c.H.length:=fun id B' h=>(List.getElem?_eq_some_iff.1 h).1
 have hget:∀ id B',c.H[id]? =some B'→(c.H++[B])[id]? =some B':=fun id B' h=>by rw[List.getElem?_append_left (hold id B' h)];exact h
 have hnew:∀ id B',(c.H++[B])[id]? =some B'→c.H[id]? =some B'∨(id=c.H.length∧B'=B):=fun id B' h=>by
  rw[List.getElem?_append] at h
  split at h
  ·exact .inl h
  ·right
   have:id - c.H.length=0:=by
    rcases Nat.eq_zero_or_pos (id - c.H.length) with h0|h0
    ·exact h0
    ·rw[List.getElem?_eq_none (by simp;omega)] at h;cases h
   rw[this] at h
   simp at h
   exact⟨by omega,h.symm⟩
 have hg:Grow c { θ:=fun i=>if i=c.H.length then θ0 else c.θ i,H:=c.H++[B],w:=w'}:=by
  refine⟨ho,ht,hou,hs,fun b hb _=>h b hb,fun b cs T fr hb=>⟨cs,fr,?_,rfl⟩,fun id B' hB'=>⟨B',hget id B' hB',?_⟩,fun id b o hn hl hθ=>?_⟩
  ·show w'.heap[b]? =_
   rw[h b (Array.getElem?_eq_some_iff.1 hb).1];exact hb
  ·have:id≠c.H.length:=Nat.ne_of_lt (hold id B' hB')
   simp only[this,if_false]
   exact fG.refl _ _ _
  ·obtain⟨B',hB',_⟩:=hl
   rcases hnew id B' hB' with h1|⟨h1,_⟩
   ·rw[hn] at h1;cases h1
   ·simp only[h1,if_true] at hθ
    rcases hθ0 with h2|h2
    ·rw[h2] at hθ;cases hθ
    ·rw[h2] at hθ;cases hθ;exact hb0
 have live':∀ i,Cx.live { θ:=fun i=>if i=c.H.length then θ0 else c.θ i,H:=c.H++[B],w:=w'} i→c.live i∨i=c.H.length:=fun i hl=>by
  obtain⟨B',h1,h2⟩:=hl
  rcases hnew i B' h1 with h3|h3
  ·exact .inl ⟨B',h3,h2⟩
  ·exact .inr h3.1
 have lt':∀ i b o,c.live i→c.θ i=some (b,o)→b<c.w.heap.size:=fun i b o ⟨B',h1,h2⟩ hθ=>dX.lt (hc.dQ i B' h1) h2 hθ
 have nl:∀ i,c.live i→i≠c.H.length:=fun i ⟨B',h1,_⟩=>Nat.ne_of_lt (hold i B' h1)
 refine⟨hg,⟨fun id B' hB'=>?_,fun i j b o o' hi hj h1 h2=>?_⟩⟩
 ·rcases hnew id B' hB' with h1|⟨rfl,rfl⟩
  ·by_cases hd:B'.isLive=true
   ·have hne:id≠c.H.length:=Nat.ne_of_lt (hold id B' h1)
    refine dX.jq hg (hc.dQ id B' h1) (by simp[hne]) fun b o hb=>h b ?_
    exact dX.lt (hc.dQ id B' h1) hd hb
   ·cases B' with
    |dead=>trivial
    |_=>exact absurd rfl hd
  ·exact hB hg
 ·rcases live' i hi with ci|ci<;>rcases live' j hj with cj|cj
  ·simp only[nl i ci,nl j cj,if_false] at h1 h2
   exact hc.inj i j b o o' ci cj h1 h2
  ·simp only[nl i ci,if_false] at h1
   subst cj
   simp only[if_true] at h2
   have:=lt' i b o ci h1
   rcases hθ0 with h3|h3
   ·rw[h3] at h2;cases h2
   ·rw[h3] at h2;cases h2;omega
  ·simp only[nl j cj,if_false] at h2
   subst ci
   simp only[if_true] at h1
   have:=lt' j b o' cj h2
   rcases hθ0 with h3|h3
   ·rw[h3] at h1;cases h1
   ·rw[h3] at h1;cases h1;omega
  ·rw[ci,cj]
theorem Cx.oB {c:Cx} (hc:aM c) {w':World} {id:Nat} {B B':av} (hB:c.H[id]? =some B) (hlive:B.isLive=true) (θ0:Option (Nat×Nat))
 (hl:fG c.w.heap.size (c.θ id) θ0 B B')
 (h:∀ k,k<c.w.heap.size→(∀ o,c.θ id≠some (k,o))→w'.heap[k]? =c.w.heap[k]?) (hs:c.w.heap.size≤w'.heap.size) (ho:w'.os=c.w.os) (ht:w'.tape=c.w.tape) (hou:w'.output=c.w.output)
 (hsh:∀ (b:Nat) (cs:Array Value) (T:TypeId) (fr:Nat×Nat),c.w.heap[b]? =some (Obj.cells cs T fr)→∃ (cs':Array Value) (fr':Nat×Nat),w'.heap[b]? =some (Obj.cells cs' T fr')∧cs'.size=cs.size)
 (hB':Grow c { θ:=fun i=>if i=id then θ0 else c.θ i,H:=c.H.set id B',w:=w'}→dX { θ:=fun i=>if i=id then θ0 else c.θ i,H:=c.H.set id B',w:=w'} id B'):
 Grow c { θ:=fun i=>if i=id then θ0 else c.θ i,H:=c.H.set id B',w:=w'}∧aM { θ:=fun i=>if i=id then θ0 else c.θ i,H:=c.H.set id B',w:=w'}:=by
 have hid:id<c.H.length:=(List.getElem?_eq_some_iff.1 hB).1
 have hget:∀ j,(c.H.set id B')[j]? =if j=id then some B' else c.H[j]? :=fun j=>by
  rw[List.getElem?_set]
  by_cases e:id=j
  ·subst e;simp[hid]
  ·simp[e,show ¬ j=id from fun h=>e h.symm]
 have hlive':B'.isLive=true:=by
  cases B with
  |dead=>cases hlive
  |cells _ _ _=>obtain⟨_,_,rfl,_⟩:=hl;rfl
  |map _ _=>obtain⟨⟨_,rfl⟩,_⟩:=hl;rfl
  |obj _=>obtain⟨⟨_,rfl,_⟩,_⟩:=hl;rfl
 have hcov:∀ b o,θ0=some (b,o)→c.w.heap.size≤b∨∃ o0,c.θ id=some (b,o0):=fun b o e=>by
  cases B with
  |dead=>cases hlive
  |cells _ _ _=>obtain⟨_,_,_,_,_,h3⟩:=hl;exact h3 b o e
  |map _ _=>obtain⟨_,e'⟩:=hl;exact .inr ⟨o,e' ▸ e⟩
  |obj _=>obtain⟨_,e'⟩:=hl;exact .inr ⟨o,e' ▸ e⟩
 have lid:c.live id:=⟨B,hB,hlive⟩
 have hg:Grow c { θ:=fun i=>if i=id then θ0 else c.θ i,H:=c.H.set id B',w:=w'}:=by
  refine⟨ho,ht,hou,hs,fun b hb hno=>h b hb fun o e=>hno ⟨id,o,lid,e⟩,hsh,fun j X hX=>?_,fun j b o hn hlv hθ=>?_⟩
  ·by_cases e:j=id
   ·subst e
    rw[hB] at hX;cases hX
    exact⟨B',by rw[hget];simp,by simpa using hl⟩
   ·exact⟨X,by rw[hget];simp[e,hX],by simp only[e,if_false];exact fG.refl _ _ _⟩
  ·by_cases e:j=id
   ·subst e;rw[hB] at hn;cases hn
   ·obtain⟨X,hX,_⟩:=hlv
    rw[hget] at hX
    simp only[e,if_false] at hX
    rw[hn] at hX;cases hX
 have live':∀ i,Cx.live { θ:=fun i=>if i=id then θ0 else c.θ i,H:=c.H.set id B',w:=w'} i→c.live i:=fun i hlv=>by
  obtain⟨X,hX,h2⟩:=hlv
  rw[hget] at hX
  by_cases e:i=id
  ·subst e;exact lid
  ·simp only[e,if_false] at hX;exact⟨X,hX,h2⟩
 refine⟨hg,⟨fun j X hX=>?_,fun i j b o o' hi hj h1 h2=>?_⟩⟩
 ·have hX':=hX
  rw[hget] at hX'
  by_cases e:j=id
  ·subst e
   simp only[if_true] at hX'
   cases hX'
   exact hB' hg
  ·simp only[e,if_false] at hX'
   by_cases hd:X.isLive=true
   ·refine dX.jq hg (hc.dQ j X hX') (by simp[e]) fun b o hb=>h b (dX.lt (hc.dQ j X hX') hd hb) fun o' e'=>?_
    exact e (hc.inj j id b o o' ⟨X,hX',hd⟩ lid hb e')
   ·cases X with
    |dead=>trivial
    |_=>exact absurd rfl hd
 ·have ci:=live' i hi
  have cj:=live' j hj
  have lt':∀ i b o,c.live i→c.θ i=some (b,o)→b<c.w.heap.size:=fun i b o ⟨X,h1,h2⟩ hθ=>dX.lt (hc.dQ i X h1) h2 hθ
  by_cases ei:i=id<;>by_cases ej:j=id
  ·rw[ei,ej]
  ·simp only[ei,if_true] at h1
   simp only[ej,if_false] at h2
   rcases hcov b o h1 with h3|⟨o0,h3⟩
   ·have:=lt' j b o' cj h2;omega
   ·rw[ei];exact hc.inj id j b o0 o' lid cj h3 h2
  ·simp only[ej,if_true] at h2
   simp only[ei,if_false] at h1
   rcases hcov b o' h2 with h3|⟨o0,h3⟩
   ·have:=lt' i b o ci h1;omega
   ·rw[ej];exact hc.inj i id b o o0 ci lid h1 h3
  ·simp only[ei,ej,if_false] at h1 h2
   exact hc.inj i j b o o' ci cj h1 h2
inductive TD where
 |bool|int (k:IntKind)|str|ptr (e:Nat)|slice (e:Nat)|array (n e:Nat)|map (k e:Nat)|struct (fs:List (Nat×Nat)) (cmp:Bool)|func|oI
def TD.agg:TD→Bool
 | .struct _ _| .array _ _=>true
 |_=>false
structure TI where
 d:TD
 size:Nat
 bytes:Nat
 zero:SV
abbrev bX:=List (Nat×TI)
def bX.get:bX→Nat→Option TI
 |[],_=>none
 |(k,v)::r,t=>bif Nat.beq t k then some v else bX.get r t
def aQ:Value→Option SV
 | .bool b=>some (.bool b)
 | .int k n=>if k.min≤n∧n≤k.max then some (.int k n) else none
 | .string s=>if s.data.toList.length≤maxLen then some (.str s.data.toList) else none
 | .slice none 0 0=>some .nil
 | .pointer none=>some .bt
 | .map none=>some .b9
 | .nilFunc=>some .cZ
 | .nilIface=>some (.oI true)
 |_=>none
def jd:List Value→Option (List SV)
 |[]=>some []
 |v::r=>match aQ v,jd r with
  |some x,some xs=>some (x::xs)
  |_,_=>none
def aP:Value→Option SV
 | .agg cs=>match jd cs.toList with
  |some xs=>some (.agg xs)
  |none=>none
 |v=>aQ v
theorem oH {v:Value} {x:SV} (h:aQ v=some x) (c:Cx):aB c x v∧v.oneCell'=true:=by
 cases v with
 |bool b=>simp[aQ] at h;subst h;simp[aB,Value.oneCell']
 |int k n=>
  simp only[aQ] at h
  split at h
  ·cases h;rename_i hh;simp[aB,Value.oneCell',hh]
  ·cases h
 |string s=>
  simp only[aQ] at h
  split at h
  ·cases h;rename_i hh;exact⟨by simp only[aB];exact⟨trivial,hh⟩,rfl⟩
  ·cases h
 |slice a l cap=>
  cases a with
  |some a=>simp[aQ] at h
  |none=>
   cases l with
   |succ l=>simp[aQ] at h
   |zero=>
    cases cap with
    |succ l=>simp[aQ] at h
    |zero=>simp[aQ] at h;subst h;simp[aB,Value.oneCell']
 |pointer a=>cases a with
  |some a=>simp[aQ] at h
  |none=>simp[aQ] at h;subst h;simp[aB,Value.oneCell']
 |map a=>cases a with
  |some a=>simp[aQ] at h
  |none=>simp[aQ] at h;subst h;simp[aB,Value.oneCell']
 |nilFunc=>simp[aQ] at h;subst h;simp[aB,Value.oneCell']
 |nilIface=>simp[aQ] at h;subst h;simp[aB,Value.oneCell']
 |_=>simp[aQ] at h
theorem mr:∀ {vs:List Value} {xs:List SV},jd vs=some xs→∀ c:Cx,ax c xs vs∧∀ v∈vs,v.oneCell'=true
 |[],xs,h,c=>by simp[jd] at h;subst h;exact⟨ax.bQ,by simp⟩
 |v::vs,xs,h,c=>by
  simp only[jd] at h
  split at h
  ·rename_i x xs' h1 h2
   cases h
   obtain⟨a1,a2⟩:=oH h1 c
   obtain⟨b1,b2⟩:=mr h2 c
   refine⟨ax.bG a1 b1,fun u hu=>?_⟩
   rcases List.mem_cons.1 hu with rfl|hu
   ·exact a2
   ·exact b2 u hu
  ·cases h
theorem eJ {v:Value} (h:v.oneCell'=true):v.cells= #[v]:=by cases v<;>simp_all [Value.oneCell',Value.cells]
theorem fZ {v:Value} (h:v.oneCell'=true):cq v:=by intro x hx;rw[eJ h] at hx;simp at hx;subst hx;exact h
theorem jY {vs:List Value} (h:∀ u∈vs,u.oneCell'=true):cq (.agg vs.toArray):=by intro x hx;exact h x (by simpa [Value.cells] using hx)
theorem mu {v:Value} {x:SV} (h:aP v=some x) (c:Cx):aB c x v∧cq v:=by
 by_cases hv:∃ cs,v= .agg cs
 ·obtain⟨cs,rfl⟩:=hv
  simp only[aP] at h
  split at h
  ·rename_i xs h1
   cases h
   obtain⟨a1,a2⟩:=mr h1 c
   exact⟨by simp only[aB];exact⟨cs.toList,a1,a2,by simp⟩,fun x hx=>a2 x (by simpa [Value.cells] using hx)⟩
  ·cases h
 ·have:aQ v=some x:=by cases v<;>first|exact h|exact absurd ⟨_,rfl⟩ hv
  obtain⟨a1,a2⟩:=oH this c
  exact⟨a1,fZ a2⟩
def EK (P:Program) (t:Nat):Prop:=(P.stoodInHeld t=false∧P.eqGuardType P.depth t=false)∧∃ fl,P.underlying t=some (.struct fl)∧fl.toList.map (fun f=>f.offset)=List.range fl.size∧∀ f∈fl.toList,f.name≠ "_"
def Bk (P:Program) (t:Nat):Bool:=!(P.stoodInHeld t)&&!(P.eqGuardType P.depth t)&&match P.underlying t with
 |some (.struct fl)=>decide (fl.toList.map (fun f=>f.offset)=List.range fl.size)&&fl.toList.all (fun f=>f.name != "_")
 |_=>false
theorem lh {P:Program} {t:Nat} (h:Bk P t=true):EK P t:=by
 unfold Bk at h
 simp only[Bool.and_eq_true,Bool.not_eq_true'] at h
 obtain⟨⟨h1,h2⟩,h3⟩:=h
 split at h3
 ·rename_i fl hf
  simp only[Bool.and_eq_true,decide_eq_true_eq,List.all_eq_true,bne_iff_ne] at h3
  exact⟨⟨h1,h2⟩,fl,hf,h3.1,h3.2⟩
 ·cases h3
def Qr (P:Program) (t:Nat):TD→Prop
 | .bool=>P.underlying t=some .bool
 | .int k=>P.underlying t=some (.int k)
 | .str=>P.underlying t=some .string
 | .ptr e=>P.underlying t=some (.pointer e)
 | .slice e=>P.underlying t=some (.slice e)
 | .array n e=>P.underlying t=some (.array n e)
 | .map k e=>P.underlying t=some (.map k e)
 | .struct fs cmp=>(∃ fl,P.underlying t=some (.struct fl)∧fl.toList.map (fun f=>(f.offset,f.type))=fs)∧(cmp=true→EK P t)
 | .func=>∃ a b c,P.underlying t=some (.func a b c)
 | .oI=>∃ m,P.underlying t=some (.interface m)
def bT (P:Program) (t:Nat) (i:TI):Prop:=
 Qr P t i.d∧∃ info z,P.info? t=some info∧info.size=i.size∧info.bytes=i.bytes∧info.zero=some z∧(∀ c,aB c i.zero z∧cq z)∧z.cells.size=i.size
def aI (P:Program) (T:bX):Prop:=∀ t i,T.get t=some i→bT P t i
def SV.size:SV→Nat
 | .agg fs=>fs.length
 |_=>1
def SV.isAgg:SV→Bool
 | .agg _=>true
 |_=>false
def SV.leaf:SV→Bool
 | .agg _| .tuple _| .undef=>false
 |_=>true
def fits (i:TI) (x:SV):Bool:=if i.d.agg then x.isAgg&&x.size==i.size else x.leaf&&i.size==1
def sub (x:SV) (off:Nat) (i:TI):Option SV:=
 if off=0∧fits i x=true∧x.size=i.size then some x
 else match x with
  | .agg fs=>if i.d.agg then (if off+i.size≤fs.length then some (.agg ((fs.drop off).take i.size)) else none) else (match fs[off]? with|some y=>if fits i y then some y else none|none=>none)
  |_=>none
def nr (x:SV) (off:Nat) (y:SV):Option SV:=
 if off=0∧x.size=y.size∧x.isAgg=y.isAgg∧(x.leaf||x.isAgg)=true then some y
 else match x with
  | .agg fs=>match y with
   | .agg ys=>if off+ys.length≤fs.length then some (.agg (fs.take off++ys++fs.drop (off+ys.length))) else none
   |y=>if off<fs.length then some (.agg (fs.set off y)) else none
  |_=>none
theorem aB.qA {c:Cx} {x:SV} {v:Value} (h:aB c x v) (hl:x.leaf=true):v.oneCell'=true:=by
 cases x with
 |agg _=>cases hl
 |tuple _=>cases hl
 |undef=>cases hl
 |ptr _ _ _ _=>exact h.1
 |sl _ _ _ _=>exact h.1
 |map _=>exact h.1
 |it _=>exact h.1
 |eC _ _ _ _ _ _=>simp only[aB] at h;rw[h.1];rfl
 |int k n=>simp only[aB] at h;rw[h.1];rfl
 |str s=>simp only[aB] at h;rw[h.1];rfl
 |list sz xs=>simp only[aB] at h;obtain⟨a,cap,h,_⟩:=h;rw[h];rfl
 |gM x=>simp only[aB] at h;obtain⟨_,_,_,h,_⟩:=h;rw[h];rfl
 |fn f a b=>simp only[aB] at h;obtain⟨_,_,_,_,h⟩:=h;rw[h];rfl
 |oI z=>
  cases z with
  |true=>simp only[aB] at h;rw[h];rfl
  |false=>simp only[aB] at h;obtain⟨_,_,h⟩:=h;rw[h];rfl
 |_=>simp only[aB] at h;rw[h];rfl
theorem aB.eI {c:Cx} {fs:List SV} {v:Value} (h:aB c (.agg fs) v):∃ vs,ax c fs vs∧(∀ u∈vs,u.oneCell'=true)∧v= .agg vs.toArray∧v.cells.toList=vs∧v.cells.size=fs.length:=by
 simp only[aB] at h
 obtain⟨vs,h1,h2,rfl⟩:=h
 exact⟨vs,h1,h2,rfl,by simp[Value.cells],by simp[Value.cells,h1.length]⟩
theorem aB.dS {c:Cx} {i:TI} {x:SV} {v:Value} (h:aB c x v) (hf:fits i x=true):cq v∧v.cells.size=i.size∧(i.d.agg=true→v= .agg v.cells)∧(i.d.agg=false→v.oneCell'=true∧i.size=1):=by
 unfold fits at hf
 by_cases ha:i.d.agg=true
 ·simp only[ha,if_true,Bool.and_eq_true,beq_iff_eq] at hf
  cases x with
  |agg fs=>
   obtain⟨vs,h1,h2,rfl,h4,h5⟩:=h.eI
   exact⟨jY h2,h5.trans hf.2,fun _=>rfl,fun e=>by rw[ha] at e;cases e⟩
  |_=>cases hf.1
 ·have ha':i.d.agg=false:=by simpa using ha
  simp only[ha',if_false,Bool.false_eq_true,Bool.and_eq_true,beq_iff_eq] at hf
  have h1:=h.qA hf.1
  exact⟨fZ h1,by rw[eJ h1];simp[hf.2],fun e=>(by rw[ha'] at e;cases e),fun _=>⟨h1,hf.2⟩⟩
theorem rT {c:Cx} {x y:SV} {u:Value} {off:Nat} {i:TI} (h:aB c x u) (hs:sub x off i=some y):
 ∃ u',aB c y u'∧fits i y=true∧(∀ j v,u'.cells.toList[j]? =some v→u.cells.toList[off+j]? =some v):=by
 unfold sub at hs
 split at hs
 ·rename_i hc
  cases hs
  obtain⟨rfl,h1,h2⟩:=hc
  exact⟨u,h,h1,fun j v hv=>by rw[Nat.zero_add];exact hv⟩
 ·cases x with
  |agg fs=>
   simp only at hs
   obtain⟨vs,h1,h2,rfl,h4,h5⟩:=h.eI
   split at hs
   ·rename_i ha
    split at hs
    ·rename_i hl
     cases hs
     refine⟨.agg ((vs.drop off).take i.size).toArray,?_,?_,?_⟩
     ·simp only[aB]
      exact⟨_,(h1.drop off).take i.size,fun u hu=>h2 u (List.mem_of_mem_drop (List.mem_of_mem_take hu)),rfl⟩
     ·simp[fits,ha,SV.isAgg,SV.size];omega
     ·intro j v hv
      simp only[Value.cells] at hv ⊢
      simp only[List.getElem?_take] at hv
      split at hv
      ·simpa using hv
      ·cases hv
    ·cases hs
   ·rename_i ha
    cases hf:fs[off]? with
    |none=>simp[hf] at hs
    |some z=>
     simp only[hf] at hs
     split at hs
     ·rename_i hfz
      cases hs
      obtain⟨u',h6,h7⟩:=h1.get hf
      refine⟨u',h7,hfz,fun j v hv=>?_⟩
      have hone:=(h7.dS hfz).2.2.2 (by simpa using ha)
      rw[eJ hone.1] at hv
      cases j with
      |zero=>simp at hv;subst hv;simpa [Value.cells] using h6
      |succ j=>simp at hv
     ·cases hs
  |_=>cases hs
theorem yj {c:Cx} {x y z:SV} {u v:Value} {off:Nat} (h:aB c x u) (hy:aB c y v) (hl:y.leaf=true∨y.isAgg=true) (hs:nr x off y=some z):
 ∃ u',aB c z u'∧cq u'∧u'.cells.size=u.cells.size∧off+v.cells.size≤u.cells.size∧u'.cells.toList=u.cells.toList.take off++v.cells.toList++u.cells.toList.drop (off+v.cells.size):=by
 have vcells:v.cells.size=y.size∧cq v:=by
  rcases hl with hl|hl
  ·have:=hy.qA hl
   refine⟨?_,fZ this⟩
   rw[eJ this]
   cases y<;>first|rfl|cases hl
  ·cases y with
   |agg ys=>obtain⟨vs,h1,h2,rfl,h4,h5⟩:=hy.eI;exact⟨h5,jY h2⟩
   |_=>cases hl
 have hxl:x.leaf=true∨x.isAgg=true:=by
  unfold nr at hs
  split at hs
  ·rename_i hc;simpa using hc.2.2.2
  ·cases x with
   |agg _=>exact .inr rfl
   |_=>cases hs
 have ucells:u.cells.size=x.size:=by
  rcases hxl with hl|hl
  ·have:=h.qA hl
   rw[eJ this]
   cases x<;>first|rfl|cases hl
  ·cases x with
   |agg ys=>obtain⟨vs,h1,h2,rfl,h4,h5⟩:=h.eI;exact h5
   |_=>cases hl
 unfold nr at hs
 split at hs
 ·rename_i hc
  cases hs
  obtain⟨rfl,h1,h2,_⟩:=hc
  refine⟨v,hy,vcells.2,by omega,by omega,?_⟩
  rw[Nat.zero_add,vcells.1,← h1,← ucells]
  simp[← Array.length_toList]
 ·cases x with
  |agg fs=>
   obtain⟨us,h1,h2,rfl,h4,h5⟩:=h.eI
   rw[h4]
   have hus:us.length=fs.length:=h1.length
   cases y with
   |agg ys=>
    simp only at hs
    obtain⟨vs,g1,g2,rfl,g4,g5⟩:=hy.eI
    split at hs
    ·rename_i hle
     cases hs
     rw[g4,g5]
     have hvs:vs.length=ys.length:=g1.length
     refine⟨.agg (us.take off++vs++us.drop (off+ys.length)).toArray,?_,?_,?_,?_,?_⟩
     ·simp only[aB]
      refine⟨_,((h1.take off).append g1).append (h1.drop _),fun w hw=>?_,rfl⟩
      rcases List.mem_append.1 hw with hw|hw
      ·rcases List.mem_append.1 hw with hw|hw
       ·exact h2 w (List.mem_of_mem_take hw)
       ·exact g2 w hw
      ·exact h2 w (List.mem_of_mem_drop hw)
     ·refine jY fun w hw=>?_
      rcases List.mem_append.1 hw with hw|hw
      ·rcases List.mem_append.1 hw with hw|hw
       ·exact h2 w (List.mem_of_mem_take hw)
       ·exact g2 w hw
      ·exact h2 w (List.mem_of_mem_drop hw)
     ·simp[Value.cells];omega
     ·simp[Value.cells];omega
     ·simp[Value.cells]
    ·cases hs
   |tuple _=>rcases hl with hl|hl<;>cases hl
   |undef=>rcases hl with hl|hl<;>cases hl
   |_=>
    simp only at hs
    split at hs
    ·rename_i hle
     cases hs
     have hone:=hy.qA (by rfl)
     rw[eJ hone]
     refine⟨.agg (us.set off v).toArray,?_,?_,?_,?_,?_⟩
     ·simp only[aB]
      refine⟨_,h1.set off hy,fun w hw=>?_,rfl⟩
      rcases List.mem_or_eq_of_mem_set hw with hw|rfl
      ·exact h2 w hw
      ·exact hone
     ·refine jY fun w hw=>?_
      rcases List.mem_or_eq_of_mem_set hw with hw|rfl
      ·exact h2 w hw
      ·exact hone
     ·simp[Value.cells]
     ·simp[Value.cells];omega
     ·simp[Value.cells]
      rw[List.set_eq_take_append_cons_drop,if_pos (by omega)]
    ·cases hs
  |_=>cases hs
theorem ni {P:Program} {t:Nat} {i:TI} (hi:bT P t i) {c:Cx} {x:SV} {u:Value} (h:aB c x u) (hf:fits i x=true) {w:World} {b o:Nat} (hr:w.rangeAt b o u.cells.toList):
 (loadVar t ⟨b,o,none⟩).run P w= .ok u w:=by
 obtain⟨hd,info,z,h1,h2,h3,h4,h5,h6⟩:=hi
 obtain⟨f1,f2,f3,f4⟩:=h.dS hf
 by_cases ha:i.d.agg=true
 ·have e:=f3 ha
  have hsz:(P.info? t).map (·.size)=some u.cells.toList.length:=by rw[h1];simp[h2,f2]
  have hgo:∀ d,P.underlying t=some d→d.isRow=true→(loadVar t ⟨b,o,none⟩).run P w= .ok u w:=fun d hu hrow=>by
   rw[run_loadVar_mid w b o t u.cells.toList d hr hu hrow hsz]
   rw[Array.toArray_toList,← e]
  cases hdd:i.d with
  |struct fs cmp=>rw[hdd] at hd;obtain⟨⟨fl,hu,_⟩,_⟩:=hd;exact hgo _ hu rfl
  |array n e=>rw[hdd] at hd;exact hgo _ hd rfl
  |_=>rw[hdd] at ha;cases ha
 ·have ha':i.d.agg=false:=by simpa using ha
  obtain⟨hone,hs1⟩:=f4 ha'
  rw[eJ hone] at hr
  have hc:w.cell? ⟨b,o,none⟩=some u:=by simpa using hr 0 u (by simp)
  have hgo:∀ d,P.underlying t=some d→d.isRow=false→(loadVar t ⟨b,o,none⟩).run P w= .ok u w:=fun d hu hrow=>by
   have hag:(isAgg t).run P w= .ok false w:=by
    unfold isAgg
    rw[Sem.run_bind,run_underlying hu w]
    cases d<;>first|rfl|cases hrow
   have hld:(load ⟨b,o,none⟩).run P w= .ok u w:=by rw[run_load,hc]
   simp only[loadVar,Sem.run_bind,hag,Result.andThen_ok,Bool.false_eq_true,if_false,hld]
  cases hdd:i.d with
  |struct fs cmp=>rw[hdd] at ha';cases ha'
  |array n e=>rw[hdd] at ha';cases ha'
  |func=>rw[hdd] at hd;obtain⟨p,q,r,hu⟩:=hd;exact hgo _ hu rfl
  |oI=>rw[hdd] at hd;obtain⟨m,hu⟩:=hd;exact hgo _ hu rfl
  |_=>rw[hdd] at hd;exact hgo _ hd rfl
def aE {α:Type} (x:Option α) (f:α→Prop):Prop:=∃ a,x=some a∧f a
theorem oX {α:Type} (a:α) (f:α→Prop):aE (some a) f=f a:=by simp[aE]
@[congr] theorem Nb {α:Type} {x y:Option α} {f:α→Prop} (h:x=y):aE x f=aE y f:=by rw[h]
def tI (p:Prop):Prop:=p
@[congr] theorem Nw {p:Prop}:tI p=tI p:=rfl
def Br (b:Bool) (A B:Prop):Prop:=(b=true→A)∧(b=false→B)
theorem KY (A B:Prop):Br true A B=A:=by simp[Br]
theorem Hr (A B:Prop):Br false A B=B:=by simp[Br]
@[congr] theorem O6 {b b':Bool} {A B:Prop} (h:b=b'):Br b A B=Br b' A B:=by rw[h]
def bY (p:Prop) (q:Prop):Prop:=p∧q
@[congr] theorem Nv {p p' q:Prop} (h:p=p'):bY p q=bY p' q:=by rw[h]
def FR (ρ:Option Nat):Fence:={ fn:=fun _=>True,depth:=none,alive:=false,round:=ρ}
structure Gl where
 l:List (Nat×SV)
 base:Option Cx:=none
def CY (G:Gl) (c:Cx):Prop:=(∀ p∈G.l,aB c (.gM p.2) (.pointer (some ⟨p.1,0,none⟩)))∧∀ C0,G.base=some C0→Grow C0 c
def dW (G:Gl) (n:Nat):Prop:=∀ C0,G.base=some C0→C0.H.length≤n
theorem CY.grow {G:Gl} {c c':Cx} (hg:Grow c c') (h:CY G c):CY G c':=⟨fun p hp=>(h.1 p hp).grow hg,fun C0 h0=>(h.2 C0 h0).trans hg⟩
theorem Grow.length {c c':Cx} (h:Grow c c'):c.H.length≤c'.H.length:=by
 rcases Nat.lt_or_ge c'.H.length c.H.length with hl|hl
 ·obtain⟨B',h1,_⟩:=h.ids c'.H.length _ (List.getElem?_eq_getElem hl)
  rw[List.getElem?_eq_none (Nat.le_refl _)] at h1
  cases h1
 ·exact hl
theorem CY.M9 {G:Gl} {c:Cx} (h:CY G c):dW G c.H.length:=fun C0 h0=>(h.2 C0 h0).length
def tG (c:Cx) (R:SV→List av→Prop):Ending→World→Prop:=fun e w'=>
 ∃ v x c',e= .returned v∧c'.w=w'∧R x c'.H∧aM c'∧aB c' x v∧Grow c c'
def KZ (P:Program) (f:Value) (vs:Array Value) (w:World) (R:Ending→World→Prop):Prop:=
 ∃ d w1,(Deferred.ofValue f vs).run P w= .ok d w1∧
  ((∃ g asv w2,(invoke d.target d.args).run P w1= .ok (.enter g asv) w2∧CallsIn (FR none) 0 P g asv w2 R)∨
   (∃ l g tmps asn bd w2,(invoke d.target d.args).run P w1= .ok (.round l g tmps asn bd) w2∧RoundIn (FR none) 0 P l g tmps asn bd w2 R))
def aq (P:Program) (G:Gl) (f:FuncId) (args:List SV) (H:List av) (R:SV→List av→Prop):Prop:=
 (∃ fn,P.funcs[f]? =some fn∧(fn.name== "runtime.NumGoroutine")=false∧fn.body.isNone=false)∧
 ∀ c vs,c.H=H→aM c→CY G c→ax c args vs→CallsIn (FR none) 0 P f vs.toArray c.w (tG c R)
def aY (P:Program) (G:Gl) (f:SV) (args:List SV) (H:List av) (R:SV→List av→Prop):Prop:=
 ∀ c v vs,c.H=H→aM c→CY G c→aB c f v→ax c args vs→KZ P v vs.toArray c.w (tG c R)
@[congr] theorem KV {P:Program} {G:Gl} {f f':SV} {args args':List SV} {H H':List av} {R:SV→List av→Prop} (h1:f=f') (h2:args=args') (h3:H=H'):aY P G f args H R=aY P G f' args' H' R:=by rw[h1,h2,h3]
@[congr] theorem MY {P:Program} {G:Gl} {f:FuncId} {args args':List SV} {H H':List av} {R:SV→List av→Prop} (h2:args=args') (h3:H=H'):aq P G f args H R=aq P G f args' H' R:=by rw[h2,h3]
theorem aq.mono {P:Program} {G:Gl} {f:FuncId} {args:List SV} {H:List av} {R R':SV→List av→Prop} (h:aq P G f args H R) (hr:∀ x H',R x H'→R' x H'):aq P G f args H R':=
 ⟨h.1,fun c vs h1 h2 h3 h4=>(h.2 c vs h1 h2 h3 h4).mono fun e w' ⟨v,x,c',a1,a2,a3,a4,a5,a6⟩=>⟨v,x,c',a1,a2,hr _ _ a3,a4,a5,a6⟩⟩
theorem aY.of {P:Program} {G:Gl} {f:FuncId} {first args cap:List SV} {H:List av} {R:SV→List av→Prop} (h:aq P G f (first++args++cap) H R):aY P G (.fn (.func f) first cap) args H R:=by
 intro c v vs h1 h2 h3 h4 h5
 simp only[aB] at h4
 obtain⟨us,cs,a1,a2,rfl⟩:=h4
 obtain⟨⟨fn,b1,b2,b3⟩,hc⟩:=h
 have hcall:=hc c (us++vs++cs) h1 h2 h3 ((a1.append h5).append a2)
 refine⟨{ target:= .fn (.func f) cs.toArray,args:=us.toArray++vs.toArray},c.w,rfl,.inl ⟨f,(us++vs++cs).toArray,c.w,?_,hcall⟩⟩
 have b2':¬ fn.name= "runtime.NumGoroutine" :=by simpa using b2
 have b3':¬ fn.body=none:=by cases hb:fn.body<;>simp_all
 simp[invoke,callFunc,Sem.run_bind,b1,b2',b3']
theorem aY.mono {P:Program} {G:Gl} {f:SV} {args:List SV} {H:List av} {R R':SV→List av→Prop} (h:aY P G f args H R) (hr:∀ x H',R x H'→R' x H'):aY P G f args H R':=by
 intro c v vs h1 h2 h3 h4 h5
 obtain⟨d,w1,a1,a2⟩:=h c v vs h1 h2 h3 h4 h5
 refine⟨d,w1,a1,?_⟩
 have hm:∀ e w',tG c R e w'→tG c R' e w':=fun e w' ⟨v,x,c',a1,a2,a3,a4,a5,a6⟩=>⟨v,x,c',a1,a2,hr _ _ a3,a4,a5,a6⟩
 rcases a2 with⟨g,asv,w2,b1,b2⟩|⟨l,g,tmps,asn,bd,w2,b1,b2⟩
 ·exact .inl ⟨g,asv,w2,b1,b2.mono hm⟩
 ·exact .inr ⟨l,g,tmps,asn,bd,w2,b1,b2.mono hm⟩
def look:List (Nat×SV)→Nat→Option SV
 |[],_=>none
 |(k,v)::r,t=>if t=k then some v else look r t
def ev (G:Gl) (env:List (Nat×SV)):Operand→Option SV
 | .tmp t=>look env t
 | .const v=>aP v
 | .global g=>match look G.l g with
  |some x=>some (.gM x)
  |none=>none
 | .func f=>some (.fn (.func f) [] [])
def kJ (G:Gl) (env:List (Nat×SV)):List Operand→Option (List SV)
 |[]=>some []
 |o::r=>match ev G env o with
  |some x=>(match kJ G env r with
   |some xs=>some (x::xs)
   |none=>none)
  |none=>none
def Hp:SV→Option Int
 | .int _ n=>some n
 |_=>none
def NK:SV→Option Bool
 | .bool b=>some b
 |_=>none
def cG (H:List av) (id g:Nat):Option (Nat×List SV):=
 match H[id]? with
 |some (.cells g' sz vals)=>if g=g' then some (sz,vals) else none
 |_=>none
def dU (H:List av):SV→Option (List SV)
 | .nil=>some []
 | .list _ xs=>some xs
 | .sl id g off len=>match cG H id g with
  |some (_,vals)=>some ((vals.drop off).take len)
  |none=>none
 |_=>none
def fu (H:List av):SV→Option Nat
 | .nil=>some 0
 | .list _ xs=>some xs.length
 | .sl _ _ _ len=>some len
 | .str s=>some s.length
 | .b9=>some 0
 | .map id=>match H[id]? with
  |some (.map _ es)=>some es.length
  |_=>none
 |_=>none
def tU (H:List av):SV→Nat
 | .sl id g off _=>match cG H id g with
  |some (sz,vals)=>if sz=0 then 0 else vals.length - off
  |none=>0
 |_=>0
def ue (l h:Nat):SV→Option SV
 | .nil=>some .nil
 | .list sz xs=>some (.list sz ((xs.drop l).take (h - l)))
 | .sl id g off _=>some (.sl id g (off+l) (h - l))
 | .str s=>some (.str ((s.drop l).take (h - l)))
 |_=>none
def SV.ey:SV→SV→Bool
 | .int _ a,.int _ b=>a==b
 | .str a,.str b=>a==b
 | .bool a,.bool b=>a==b
 |_,_=>false
def bO:List (SV×SV)→SV→Option SV
 |[],_=>none
 |(k,v)::r,x=>if SV.ey x k then some v else bO r x
def cN:List (SV×SV)→SV→SV→List (SV×SV)
 |[],x,y=>[(x,y)]
 |(k,v)::r,x,y=>if SV.ey x k then (x,y)::r else (k,v)::cN r x y
def mapOf (H:List av) (kd:Option IntKind):SV→Option (List (SV×SV))
 | .b9=>some []
 | .map id=>match H[id]? with
  |some (.map kd' es)=>if kd=kd' then some es else none
  |_=>none
 | .eC _ _ _ kd' ks vs=>if kd=kd' then some (ks.zip vs) else none
 |_=>none
def AQ (op:BinOp) (a b:Int):Option Bool:=
 match op with
 | .eql=>some (decide (a=b))| .neq=>some (!decide (a=b))| .lss=>some (decide (a<b))| .leq=>some (decide (a≤b))| .gtr=>some (decide (b<a))| .geq=>some (decide (b≤a))
 |_=>none
def eW (a b:List UInt8):Bool:=Op.bytesLess a b
def AR (op:BinOp) (a b:List UInt8):Option Bool:=
 match op with
 | .eql=>some (decide (a=b))| .neq=>some (!decide (a=b))| .lss=>some (eW a b)| .leq=>some (eW a b||decide (a=b))| .gtr=>some (!(eW a b||decide (a=b)))| .geq=>some (!eW a b)
 |_=>none
def l6 (op:BinOp) (k:IntKind) (x y:Int):Option Int:=
 let a:=BitVec.ofInt k.bits x
 let b:=BitVec.ofInt k.bits y
 match op with
 | .and=>some (k.wrap (a &&& b).toNat)| .or=>some (k.wrap (a ||| b).toNat)| .xor=>some (k.wrap (a ^^^ b).toNat)| .andNot=>some (k.wrap (a &&& ~~~b).toNat)
 |_=>none
def wv:SV→SV→Option Bool
 | .int i a,.int j b=>if i=j then some (decide (a=b)) else none
 | .str a,.str b=>some (decide (a=b))
 | .bool a,.bool b=>some (a==b)
 |_,_=>none
def rm:List SV→List SV→Option Bool
 |[],[]=>some true
 |x::xs,y::ys=>match wv x y with
  |some a=>(match rm xs ys with
   |some b=>some (a&&b)
   |none=>none)
  |none=>none
 |_,_=>none
def jR:SV→Nat
 | .int k _=>if k= .i64 then 1 else 5
 | .str _=>2
 | .bool _=>3
 |_=>0
def dR:List SV→Nat
 |[]=>0
 |x::xs=>jR x+8*dR xs
def Bg (T:bX) (t:Nat):Nat:=match T.get t with
 |some ⟨.int k,_,_,_⟩=>if k= .i64 then 1 else 7
 |some ⟨.str,_,_,_⟩=>2
 |some ⟨.bool,_,_,_⟩=>3
 |_=>7
def pL (T:bX):List (Nat×Nat)→Nat
 |[]=>0
 |p::r=>Bg T p.2+8*pL T r
def kg (H:List av) (id:Nat):Option Unit:=match H[id]? with
 |some (.map _ _)=>some ()
 |_=>none
def dT (H:List av) (tb:Nat) (op:BinOp) (x y:SV) (k:SV→Prop):Prop:=
 match x,y with
 | .int i a,.int j b=>
  match op with
  | .shl=>bY (0≤b) (k (.int i (i.wrap (a*2 ^ (min b.toNat i.bits)))))
  | .shr=>bY (0≤b) (k (.int i (a.fdiv (2 ^ (min b.toNat i.bits)))))
  | .add=>if i=j then k (.int i (i.wrap (a+b))) else False
  | .sub=>if i=j then k (.int i (i.wrap (a - b))) else False
  | .mul=>if i=j then k (.int i (i.wrap (a*b))) else False
  | .quo=>if i=j then bY (b≠0) (k (.int i (i.wrap (a.tdiv b)))) else False
  | .rem=>if i=j then bY (b≠0) (k (.int i (a.tmod b))) else False
  | .and=>if i=j then aE (l6 .and i a b) fun n=>k (.int i n) else False
  | .or=>if i=j then aE (l6 .or i a b) fun n=>k (.int i n) else False
  | .xor=>if i=j then aE (l6 .xor i a b) fun n=>k (.int i n) else False
  | .andNot=>if i=j then aE (l6 .andNot i a b) fun n=>k (.int i n) else False
  |op=>if i=j then aE (AQ op a b) fun r=>k (.bool r) else False
 | .str a,.str b=>
  match op with
  | .add=>bY (a.length+b.length≤maxLen) (k (.str (a++b)))
  |op=>aE (AR op a b) fun r=>k (.bool r)
 | .bool a,.bool b=>
  match op with
  | .eql=>bY (tb=1) (k (.bool (a==b)))
  | .neq=>bY (tb=1) (k (.bool (!(a==b))))
  |_=>False
 | .nil,.nil=>
  match op with
  | .eql=>bY (tb=2) (k (.bool true))
  | .neq=>bY (tb=2) (k (.bool false))
  |_=>False
 | .list _ xs,.nil=>
  match op with
  | .eql=>bY (tb=2) ((xs=[]→k (.bool true))∧k (.bool false))
  | .neq=>bY (tb=2) ((xs=[]→k (.bool false))∧k (.bool true))
  |_=>False
 | .sl id g _ n,.nil=>
  match op with
  | .eql=>aE (cG H id g) fun _=>bY (tb=2) ((n=0→k (.bool true))∧k (.bool false))
  | .neq=>aE (cG H id g) fun _=>bY (tb=2) ((n=0→k (.bool false))∧k (.bool true))
  |_=>False
 | .b9,.b9=>
  match op with
  | .eql=>bY (tb=3) (k (.bool true))
  | .neq=>bY (tb=3) (k (.bool false))
  |_=>False
 | .map id,.b9=>
  match op with
  | .eql=>aE (kg H id) fun _=>bY (tb=3) (k (.bool false))
  | .neq=>aE (kg H id) fun _=>bY (tb=3) (k (.bool true))
  |_=>False
 | .bt,.bt=>
  match op with
  | .eql=>bY (tb=4) (k (.bool true))
  | .neq=>bY (tb=4) (k (.bool false))
  |_=>False
 | .ptr id g _ _,.bt=>
  match op with
  | .eql=>aE (cG H id g) fun _=>bY (tb=4) (k (.bool false))
  | .neq=>aE (cG H id g) fun _=>bY (tb=4) (k (.bool true))
  |_=>False
 | .gM _,.bt=>
  match op with
  | .eql=>bY (tb=4) (k (.bool false))
  | .neq=>bY (tb=4) (k (.bool true))
  |_=>False
 | .agg xs,.agg ys=>
  match op with
  | .eql=>bY (tb=5+dR xs∧dR ys=dR xs) (aE (rm xs ys) fun b=>k (.bool b))
  | .neq=>bY (tb=5+dR xs∧dR ys=dR xs) (aE (rm xs ys) fun b=>k (.bool (!b)))
  |_=>False
 |_,_=>False
def pg:Operand→Bool
 | .const .nilIface=>true
 |_=>false
def xI (T:List (Nat×TI)) (t:Nat):Bool:=match bX.get T t with
 |some ⟨.oI,_,_,_⟩=>true
 |_=>false
def uN (b:Bool) (op:BinOp) (x:SV) (k:SV→Prop):Prop:=
 match x with
 | .oI z=>(match op with
  | .eql=>bY (b=true) (k (.bool z))
  | .neq=>bY (b=true) (k (.bool (!z)))
  |_=>False)
 |_=>False
def fM (T:List (Nat×TI)) (t:Nat):Nat:=
 match bX.get T t with
 |some ⟨.bool,_,_,_⟩=>1
 |some ⟨.slice _,_,_,_⟩=>2
 |some ⟨.map _ _,_,_,_⟩=>3
 |some ⟨.ptr _,_,_,_⟩=>4
 |some ⟨.struct fs true,_,_,_⟩=>5+pL T fs
 |_=>0
def Ei (op:UnOp) (x:SV) (k:SV→Prop):Prop:=
 match op,x with
 | .not,.bool b=>k (.bool (!b))
 | .neg,.int i n=>k (.int i (i.wrap (0 - n)))
 |_,_=>False
def elemOf (T:bX) (t:Nat):Option (Nat×TI):=
 match T.get t with
 |some ⟨.slice e,_,_,_⟩=>(match T.get e with
  |some i=>some (e,i)
  |none=>none)
 |_=>none
def AD (T:bX) (t:Nat):Option (Nat×TI):=
 match T.get t with
 |some ⟨.array n e,_,_,_⟩=>(match T.get e with
  |some i=>some (n,i)
  |none=>none)
 |_=>none
def E2:SV→Bool
 | .gM _| .ptr .. =>true
 |_=>false
def ln (T:bX) (t f:Nat):Option (Nat×TI):=
 match T.get t with
 |some ⟨.struct fs _,_,_,_⟩=>(match fs[f]? with
  |some (off,ft)=>(match T.get ft with
   |some i=>if i.size=0 then none else some (off,i)
   |none=>none)
  |none=>none)
 |_=>none
def dJ (T:bX) (t:Nat):Option (Option IntKind×TI):=
 match T.get t with
 |some ⟨.map k e,_,_,_⟩=>(match T.get k with
  |some ⟨.int j,_,_,_⟩=>(match T.get e with
   |some i=>some (some j,i)
   |none=>none)
  |some ⟨.str,_,_,_⟩=>(match T.get e with
   |some i=>some (none,i)
   |none=>none)
  |_=>none)
 |_=>none
def mX (H:List av) (i:TI):SV→Option SV
 | .gM x=>sub x 0 i
 | .ptr id g j off=>match cG H id g with
  |some (_,vals)=>(match vals[j]? with
   |some x=>sub x off i
   |none=>none)
  |none=>none
 |_=>none
def oq (H:List av) (i:TI) (y:SV):SV→Option (List av)
 | .ptr id g j off=>match cG H id g with
  |some (sz,vals)=>(match vals[j]? with
   |some x=>(match nr x off y with
    |some z=>if fits i y then some (H.set id (.cells g sz (vals.set j z))) else none
    |none=>none)
   |none=>none)
  |none=>none
 |_=>none
def fI (off:Nat) (i:TI):SV→Option SV
 | .gM x=>match sub x off i with
  |some y=>some (.gM y)
  |none=>none
 | .ptr id g j o=>some (.ptr id g j (o+off))
 |_=>none
def jU (T:bX):TD→Bool
 | .struct fs _=>fs.all fun p=>(T.get p.2).isSome
 | .array _ e=>(T.get e).isSome
 |_=>false
def n9 (H:List av) (d:TD) (v:SV):Bool:=
 match d,v with
 | .str,.str _=>true
 | .slice _,.nil=>true
 | .slice _,.list _ _=>true
 | .slice _,.sl id g _ _=>(cG H id g).isSome
 | .map _ _,.map _=>true
 | .map _ _,.b9=>true
 |_,_=>false
def rC (d:Option Nat):List Nat→Bool
 |[]=>false
 |x::r=>if d=some x then true else rC d r
def partsOf (T:bX) (d:TD) (G:Gl) (env:List (Nat×SV)):List (Nat×Operand)→Option (List (Nat×SV))
 |[]=>some []
 |(j,o)::r=>match (match d with
  | .struct fs _=>(match fs[j]? with
   |some (off,ft)=>some (off,ft)
   |none=>none)
  | .array _ e=>(match T.get e with
   |some i=>some (j*i.size,e)
   |none=>none)
  |_=>none) with
  |some (off,ft)=>(match T.get ft with
   |some i=>(match ev G env o with
    |some x=>if fits i x then (match partsOf T d G env r with
     |some l=>some ((off,x)::l)
     |none=>none) else none
    |none=>none)
   |none=>none)
  |none=>none
def nc:SV→List (Nat×SV)→Option SV
 |x,[]=>some x
 |x,(off,y)::r=>match nr x off y with
  |some z=>nc z r
  |none=>none
def cY (i:TI) (G:Gl) (env:List (Nat×SV)):List SV→List (Nat×Operand)→Option (List SV)
 |xs,[]=>some xs
 |xs,(j,o)::r=>match ev G env o with
  |some x=>if fits i x=true∧j<xs.length then cY i G env (xs.set j x) r else none
  |none=>none
def oM (H:List av):SV→Bool
 | .gM _=>true
 | .ptr id g _ _=>(cG H id g).isSome
 | .fn (.func _) _ _=>true
 |_=>false
def cp (G:Gl) (env:List (Nat×SV)):Option Operand→Int→Option Int
 |none,d=>some d
 |some o,_=>match ev G env o with
  |some x=>Hp x
  |none=>none
def lT (H:List av) (n:Nat):SV→Bool
 | .list sz _=>sz==n
 | .sl id g _ _=>match cG H id g with
  |some (sz,_)=>sz==n
  |none=>false
 |_=>true
def eX (H:List av) (e:TI) (s:SV) (ys:List SV) (k:SV→List av→Prop):Prop:=
 match s with
 | .nil=>bY (0<e.bytes) (bY (ys.length*e.bytes≤70368744177664) (k (.sl H.length 0 0 ys.length) (H++[.cells 0 e.size ys])))
 | .sl id g off len=>aE (cG H id g) fun b=>bY (0<e.bytes∧b.1=e.size) (bY ((len+ys.length)*e.bytes≤70368744177664)
  ((off+len=b.2.length∧k (.sl id (g+1) 0 (len+ys.length)) (H.set id (.cells (g+1) e.size (b.2.drop off++ys))))∨
   (0<e.size∧off+len+ys.length≤b.2.length∧k (.sl id g off (len+ys.length)) (H.set id (.cells g e.size (b.2.take (off+len)++ys++b.2.drop (off+len+ys.length)))))))
 |_=>False
def dN (s:List UInt8):List SV:=s.map fun b=> .int .u8 b.toNat
def strOf:List SV→Option (List UInt8)
 |[]=>some []
 | .int .u8 n::r=>match strOf r with
  |some s=>some (UInt8.ofNat n.toNat::s)
  |none=>none
 |_=>none
theorem sM:∀ s:List UInt8,strOf (dN s)=some s
 |[]=>rfl
 |b::s=>by
  have h:=sM s
  simp only[dN,List.map_cons] at h ⊢
  simp[strOf,h]
def BV (T:bX) (e:Nat):Bool:=match T.get e with
 |some i=>(match i.d with
  | .int .u8=>true
  |_=>false)
 |none=>false
def om (T:bX):TD→Bool
 | .slice e=>BV T e
 |_=>false
def ee (T:bX) (G:Gl) (env:List (Nat×SV)) (H:List av) (b:Builtin) (args:List Operand) (tys:List Nat) (k:SV→List av→Prop):Prop:=
 match b,args,tys with
 | .len,[x],[t]=>aE (T.get t) fun i=>aE (ev G env x) fun v=>bY (n9 H i.d v=true) (aE (fu H v) fun n=>match i.d with
  | .map _ _=>bY (n≤9223372036854775807) (k (.int .i64 n) H)
  |_=>k (.int .i64 n) H)
 | .append,[s,x],[t,tx]=>aE (elemOf T t) fun e=>aE (T.get tx) fun ix=>aE (ev G env s) fun s=>aE (ev G env x) fun x=>
  match ix.d with
  | .slice _=>aE (dU H x) fun ys=>bY (lT H e.2.size x=true) (eX H e.2 s ys k)
  | .str=>(match x with
   | .str bs=>bY (e.2.size=1) (eX H e.2 s (dN bs) k)
   |_=>False)
  |_=>False
 | .copy,[d,s],[t,ts]=>aE (elemOf T t) fun e=>aE (elemOf T ts) fun _=>aE (ev G env d) fun d=>aE (ev G env s) fun s=>aE (dU H s) fun ys=>bY (lT H e.2.size s=true) (match d with
  | .sl id g off len=>aE (cG H id g) fun b=>bY (b.1=e.2.size∧0<e.2.size∧off+len≤b.2.length)
   (k (.int .i64 (min ys.length len:Nat)) (H.set id (.cells g e.2.size (b.2.take off++ys.take (min ys.length len)++b.2.drop (off+min ys.length len)))))
  |_=>False)
 | .clear,[x],[t]=>aE (elemOf T t) fun e=>aE (ev G env x) fun x=>(match x with
  | .nil=>k (.tuple []) H
  | .sl id g off len=>aE (cG H id g) fun b=>bY (b.1=e.2.size∧0<e.2.size∧off+len≤b.2.length)
   (k (.tuple []) (H.set id (.cells g e.2.size (b.2.take off++List.replicate len e.2.zero++b.2.drop (off+len)))))
  |_=>False)
 | .min,[x,y],_=>aE (ev G env x) fun x=>aE (ev G env y) fun y=>(match x,y with
  | .int i a,.int _ b=>bY (i.min≤b∧b≤i.max) (k (.int i (if b<a then b else a)) H)
  |_,_=>False)
 | .max,[x,y],_=>aE (ev G env x) fun x=>aE (ev G env y) fun y=>(match x,y with
  | .int i a,.int _ b=>bY (i.min≤b∧b≤i.max) (k (.int i (if a<b then b else a)) H)
  |_,_=>False)
 |_,_,_=>False
def cH (P:Program) (G:Gl) (T:bX) (own:List Nat) (env:List (Nat×SV)) (H:List av) (dst:Option Nat) (ty:Nat) (op:Op) (k:SV→List av→Prop):Prop:=
 match op with
 | .move x=>aE (ev G env x) fun v=>k v H
 | .assign x=>Br (rC dst own) (aE (elemOf T ty) fun e=>aE (ev G env x) fun v=>(match v with
  | .nil=>k (.sl H.length 0 0 0) (H++[.cells 0 e.2.size []])
  |v=>k v H)) (aE (ev G env x) fun v=>k v H)
 | .pick c x y=>aE (ev G env c) fun v=>aE (NK v) fun g=>Br g (aE (ev G env x) fun v=>k v H) (aE (ev G env y) fun v=>k v H)
 | .alloc t=>aE (T.get t) fun i=>k (.ptr H.length 0 0 0) (H++[.cells 0 i.size [i.zero]])
 | .box t x=>aE (T.get t) fun i=>aE (ev G env x) fun v=>bY (fits i v=true) (k (.ptr H.length 0 0 0) (H++[.cells 0 i.size [v]]))
 | .build t parts=>aE (T.get t) fun i=>bY (jU T i.d=true∧i.zero.isAgg=true)<|aE (partsOf T i.d G env parts.toList) fun ps=>aE (nc i.zero ps) fun v=>k v H
 | .buildSlice t len parts=>aE (elemOf T t) fun e=>bY ((len*e.2.size≤16777216∧0<e.2.size)∧fits e.2 e.2.zero=true) (aE (cY e.2 G env (List.replicate len e.2.zero) parts.toList) fun xs=>
  Br (len==0||rC dst own) (k (.sl H.length 0 0 len) (H++[.cells 0 e.2.size xs])) (k (.list e.2.size xs) H))
 | .load t x=>aE (T.get t) fun i=>aE (ev G env x) fun p=>aE (mX H i p) fun v=>k v H
 | .store t x y=>aE (T.get t) fun i=>aE (ev G env x) fun p=>aE (ev G env y) fun v=>aE (oq H i v p) fun H'=>k .undef H'
 | .nilCheck x=>aE (ev G env x) fun v=>bY (oM H v=true) (k v H)
 | .binOp op t x y _=>aE (ev G env x) fun a=>aE (ev G env y) fun b=>Br (pg y) (uN (xI T t) op a fun v=>k v H) (dT H (fM T t) op a b fun v=>k v H)
 | .unOp op _ x=>aE (ev G env x) fun a=>Ei op a fun v=>k v H
 | .convert st dt x=>aE (T.get st) fun si=>aE (T.get dt) fun i=>aE (ev G env x) fun v=>(match i.d,v with
  | .int j,.int _ n=>k (.int j (j.wrap n)) H
  | .str,.str s=>k (.str s) H
  | .slice e,.sl id g off len=>bY (BV T e=true∧st=dt∧0<len) (aE (cG H id g) fun b=>bY (b.1=1) (k (.sl id g off len) H))
  | .slice e,.str s=>bY (BV T e=true) (k (.sl H.length 0 0 s.length) (H++[.cells 0 1 (dN s)]))
  | .str,v=>bY (om T si.d=true∧lT H 1 v=true) (aE (dU H v) fun xs=>aE (strOf xs) fun s=>k (.str s) H)
  |_,_=>False)
 | .makeFunc fn first cap=>aE (kJ G env first.toList) fun xs=>aE (kJ G env cap.toList) fun ys=>k (.fn fn xs ys) H
 | .makeMap t none=>aE (dJ T t) fun p=>k (.map H.length) (H++[.map p.1 []])
 | .slice t x lo hi none=>aE (T.get t) fun i=>aE (ev G env x) fun v=>aE (fu H v) fun n=>aE (cp G env lo 0) fun l=>aE (cp G env hi n) fun h=>
  bY (0≤l∧l≤h∧(h≤(n:Int)∨h≤(tU H v:Int))) (aE (ue l.toNat h.toNat v) fun y=>(match i.d with
   | .slice _=>aE (elemOf T t) fun e=>bY ((dU H v).isSome=true) (bY (lT H e.2.size v=true) (k y H))
   | .str=>(match v with
    | .str _=>k y H
    |_=>False)
   |_=>False))
 | .slice t x lo (some hi) (some mx)=>aE (elemOf T t) fun e=>aE (ev G env x) fun v=>aE (fu H v) fun n=>aE (cp G env lo 0) fun l=>aE (cp G env (some hi) 0) fun h=>aE (cp G env (some mx) 0) fun m=>
  bY (0≤l∧l≤h∧h≤m∧m≤(n:Int)) (bY ((dU H v).isSome=true) (k (.sl H.length 0 0 0) (H++[.dead])))
 | .makeSlice t x y=>aE (elemOf T t) fun e=>aE (ev G env x) fun xv=>aE (Hp xv) fun n=>aE (ev G env y) fun yv=>aE (Hp yv) fun m=>
  bY (m=n∧0≤n∧0<e.2.bytes∧0<e.2.size∧n.toNat*e.2.bytes≤70368744177664) (bY (fits e.2 e.2.zero=true) (k (.sl H.length 0 0 n.toNat) (H++[.cells 0 e.2.size (List.replicate n.toNat e.2.zero)])))
 | .fieldAddr t x f=>aE (ln T t f) fun p=>aE (ev G env x) fun v=>bY (oM H v=true) (aE (fI p.1 p.2 v) fun y=>k y H)
 | .field t x f=>aE (ln T t f) fun p=>aE (ev G env x) fun v=>bY (v.isAgg=true) (aE (sub v p.1 p.2) fun y=>k y H)
 | .indexAddr t x i=>aE (ev G env x) fun s=>aE (ev G env i) fun iv=>aE (Hp iv) fun n=>
  Br (E2 s) (aE (AD T t) fun p=>bY ((0≤n∧n<(p.1:Int))∧oM H s=true) (aE (fI (n.toNat*p.2.size) p.2 s) fun y=>k y H))
  (aE (elemOf T t) fun e=>aE (dU H s) fun xs=>
  bY (0≤n) (aE xs[n.toNat]? fun y=>(match s with
   | .list sz _=>bY (sz=e.2.size) (k (.gM y) H)
   | .sl id g off _=>aE (cG H id g) fun b=>bY (b.1=e.2.size) (k (.ptr id g (off+n.toNat) 0) H)
   |_=>False)))
 | .index t x i=>aE (T.get t) fun ti=>aE (ev G env x) fun s=>aE (ev G env i) fun iv=>aE (Hp iv) fun n=>(match ti.d,s with
  | .str,.str bs=>bY (0≤n) (aE bs[n.toNat]? fun b=>k (.int .u8 b.toNat) H)
  | .array m e,.agg fs=>bY (0≤n∧n<(m:Int)) (aE (T.get e) fun ie=>aE (sub (.agg fs) (n.toNat*ie.size) ie) fun y=>k y H)
  |_,_=>False)
 | .lookup t m key ok=>aE (dJ T t) fun p=>aE (ev G env m) fun v=>aE (mapOf H p.1 v) fun es=>aE (ev G env key) fun kx=>bY (eU p.1 kx=true)
  (k (if ok then .tuple [(bO es kx).getD p.2.zero,.bool (bO es kx).isSome] else (bO es kx).getD p.2.zero) H)
 | .mapUpdate t m key x=>aE (dJ T t) fun p=>aE (ev G env m) fun v=>(match v with
  | .map id=>aE (mapOf H p.1 v) fun es=>aE (ev G env key) fun kx=>aE (ev G env x) fun y=>bY (eU p.1 kx=true) (k .undef (H.set id (.map p.1 (cN es kx y))))
  |_=>False)
 | .insert t m key x=>aE (dJ T t) fun p=>aE (ev G env m) fun v=>(match v with
  | .map id=>aE (mapOf H p.1 v) fun es=>aE (ev G env key) fun kx=>aE (ev G env x) fun y=>bY (eU p.1 kx=true) (k .undef (H.set id (.map p.1 (cN es kx y))))
  |_=>False)
 | .extract x j=>aE (ev G env x) fun v=>(match v with
  | .tuple xs=>aE xs[j]? fun y=>k y H
  |_=>False)
 | .call c=>match c.callee with
  | .builtin b=>ee T G env H b c.args.toList c.argTypes.toList k
  | .value f=>aE (ev G env f) fun fv=>aE (kJ G env c.args.toList) fun xs=>aY P G fv xs H fun r H'=>tI (k r H')
  |_=>False
 |_=>False
@[congr] theorem NV {P:Program} {G:Gl} {T:bX} {own:List Nat} {env env':List (Nat×SV)} {H H':List av} {dst:Option Nat} {ty:Nat} {op:Op} {k:SV→List av→Prop} (h1:env=env') (h2:H=H'):
 cH P G T own env H dst ty op k=cH P G T own env' H' dst ty op k:=by rw[h1,h2]
@[congr] theorem Hq {T:bX} {G:Gl} {env env':List (Nat×SV)} {H H':List av} {b:Builtin} {args args':List Operand} {tys tys':List Nat} {k:SV→List av→Prop} (h1:env=env') (h2:H=H') (h3:args=args') (h4:tys=tys'):
 ee T G env H b args tys k=ee T G env' H' b args' tys' k:=by rw[h1,h2,h3,h4]
@[congr] theorem HI {H H':List av} {e e':TI} {s s':SV} {ys ys':List SV} {k:SV→List av→Prop} (h1:H=H') (h2:e=e') (h3:s=s') (h4:ys=ys'):eX H e s ys k=eX H' e' s' ys' k:=by rw[h1,h2,h3,h4]
@[congr] theorem Na {H H':List av} {tb tb':Nat} {op:BinOp} {x x' y y':SV} {k:SV→Prop} (h0:H=H') (h1:tb=tb') (h2:x=x') (h3:y=y'):dT H tb op x y k=dT H' tb' op x' y' k:=by rw[h0,h1,h2,h3]
@[congr] theorem OS {op:UnOp} {x x':SV} {k:SV→Prop} (h1:x=x'):Ei op x k=Ei op x' k:=by rw[h1]
section
def pB (B:Nat) (c:Cx) (ds:List Deferred):Prop:=(∀ d∈ds,∃ r,d={ target:= .collected r,args:= #[]}∧c.w.heap[r]? =some (.deferred (some []))∧c.qZ r∧B≤r)∧ds.Pairwise (fun x y=>∀ r,x={ target:= .collected r,args:= #[]}→y≠{ target:= .collected r,args:= #[]})
theorem pB.grow {B:Nat} {c c':Cx} (hg:Grow c c') {ds:List Deferred} (h:pB B c ds):pB B c' ds:=
 ⟨fun d hd=>by obtain⟨r,h1,h2,h3,h4⟩:=h.1 d hd;exact⟨r,h1,(hg.jq h3).trans h2,hg.qZ h3,h4⟩,h.2⟩
structure Inv (G:Gl) (nt B:Nat) (c:Cx) (env:List (Nat×SV)) (a:Act):Prop where
 heap:aM c
 gG:CY G c
 size:a.tmps.size=nt
 env:∀ t x,look env t=some x→aB c x (a.tmps.getD t undef)
 defs:pB B c a.defers
theorem Jq {env:List (Nat×SV)} {t:Nat} {x:SV} (h:look env t=some x):(t,x)∈env:=by
 induction env with
 |nil=>cases h
 |cons p r ih=>
  obtain⟨k,v⟩:=p
  simp only[look] at h
  split at h
  ·rename_i e;cases h;subst e;simp
  ·exact List.mem_cons_of_mem _ (ih h)
section
variable {P:Program} {G:Gl} {T:bX} {own:List Nat} {nt B:Nat} {c:Cx} {env:List (Nat×SV)} {a:Act} {ρ:Option Nat}
theorem bR (hi:Inv G nt B c env a) {o:Operand} {x:SV} (h:ev G env o=some x):aB c x (a.eval o):=by
 cases o with
 |tmp t=>exact hi.env t x h
 |const v=>exact(mu h c).1
 |global g=>
  simp only[ev] at h
  split at h
  ·rename_i y hy;cases h;exact hi.gG.1 _ (Jq hy)
  ·cases h
 |func f=>
  simp only[ev] at h
  cases h
  simp only[aB]
  exact⟨[],[],ax.bQ,ax.bQ,rfl⟩
theorem yW (hi:Inv G nt B c env a):∀ {os:List Operand} {xs:List SV},kJ G env os=some xs→ax c xs (os.map a.eval)
 |[],xs,h=>by simp only[kJ] at h;cases h;exact ax.bQ
 |o::os,xs,h=>by
  simp only[kJ] at h
  split at h
  ·rename_i x hx
   split at h
   ·rename_i ys hys;cases h;exact ax.bG (bR hi hx) (yW hi hys)
   ·cases h
  ·cases h
theorem Inv.put {x:SV} {u:Value} {c':Cx} (hi:Inv G nt B c env a) (hg:Grow c c') (hh:aM c') (hx:aB c' x u) {d:Nat} (hd:d<nt):Inv G nt B c' ((d,x)::env) (a.put (some d) u):=by
 refine⟨hh,hi.gG.grow hg,by simp[Act.put,hi.size],fun t y hy=>?_,hi.defs.grow hg⟩
 simp only[look] at hy
 simp only[Act.put]
 split at hy
 ·rename_i e
  cases hy;subst e
  have:t<a.tmps.size:=by rw[hi.size];exact hd
  simpa [this] using hx
 ·rename_i e
  have:=(hi.env t y hy).grow hg
  have e':d≠t:=fun h=>e h.symm
  simpa [Array.getD_eq_getD_getElem?,Array.getElem?_setIfInBounds_ne e'] using this
theorem Inv.kQ {u:Value} {c':Cx} (hi:Inv G nt B c env a) (hg:Grow c c') (hh:aM c'):Inv G nt B c' env (a.put none u):=
 ⟨hh,hi.gG.grow hg,hi.size,fun t y hy=>(hi.env t y hy).grow hg,hi.defs.grow hg⟩
theorem eQ {o:Oper} {next:Act→World→Prop} {Q:Exit→Act→World→Prop} {w w':World} {u:Value} (hd:∀ c,o.op≠ .defer c) (hr:(execOp a.eval o).run P w= .ok (.value u) w') (hn:next (a.put o.dst u) w'):o.wpIn (FR ρ) 0 P a w next Q:=by
 refine⟨fun _ _=>trivial,?_⟩
 rw[Oper.semAt_eq _ _ _ hd,hr]
 exact hn
theorem KG {o:Oper} {next:Act→World→Prop} {Q:Exit→Act→World→Prop} {w w':World} (hd:∀ c,o.op≠ .defer c) (hr:(execOp a.eval o).run P w= .ok .skip w') (hn:next (a.put o.dst undef) w'):o.wpIn (FR ρ) 0 P a w next Q:=by
 refine⟨fun _ _=>trivial,?_⟩
 rw[Oper.semAt_eq _ _ _ hd,hr]
 exact hn
abbrev Cx.add (c:Cx) (B:av) (θ0:Option (Nat×Nat)) (w':World):Cx:={ θ:=fun i=>if i=c.H.length then θ0 else c.θ i,H:=c.H++[B],w:=w'}
abbrev Cx.Nu (c:Cx) (id:Nat) (B:av) (θ0:Option (Nat×Nat)) (w':World):Cx:={ θ:=fun i=>if i=id then θ0 else c.θ i,H:=c.H.set id B,w:=w'}
theorem jP {w:World} {b:Nat} {cs:Array Value} {T:TypeId} {fr:Nat×Nat} (h:w.heap[b]? =some (.cells cs T fr)) (o:Nat):w.cell? ⟨b,o,none⟩=cs[o]? :=by simp[World.cell?,h]
theorem fY (hc:aM c) {sz:Nat} {xs:List SV} {vs:List Value} (h:ax c xs vs) (hu:∀ u∈vs,u.cells.size=sz∧cq u) (cs:Array Value) (sp:List Value) (hcs:cs.toList=cellsOf vs++sp) (T:TypeId) (fr:Nat×Nat) (hfr:gn cs fr)
 {w0:World} (h0:w0.heap=c.w.heap) (ho:w0.os=c.w.os) (ht:w0.tape=c.w.tape) (hou:w0.output=c.w.output):
 Grow c (c.add (.cells 0 sz xs) (some (c.w.heap.size,0)) (w0.alloc (.cells cs T fr)))∧aM (c.add (.cells 0 sz xs) (some (c.w.heap.size,0)) (w0.alloc (.cells cs T fr))):=by
 have hnew:(w0.alloc (.cells cs T fr)).heap[c.w.heap.size]? =some (.cells cs T fr):=by rw[← h0];exact heap_alloc_new w0 _
 refine Cx.fresh hc c.w.heap.size (Nat.le_refl _) 0 _ (.inr rfl) _ (fun b hb=>?_) (by simp[h0]) ho ht hou fun hg=>?_
 ·rw[heap_alloc_old w0 _ b (by rw[h0];exact hb),h0]
 ·refine .inr ⟨c.w.heap.size,0,cs,T,fr,vs,by simp,hnew,hfr,h.grow hg,hu,fun j v hv=>?_⟩
  rw[jP hnew,Nat.zero_add,← Array.getElem?_toList,hcs,List.getElem?_append_left (List.getElem?_eq_some_iff.1 hv).1]
  exact hv
variable {o:Oper} {next:Act→World→Prop} {Q:Exit→Act→World→Prop} {k:SV→List av→Prop}
theorem aB.undef {c:Cx}:aB c .undef Go.undef:=by simp[aB]
theorem wp_pure (hi:Inv G nt B c env a) (hk:∀ x c' u,k x c'.H→aM c'→aB c' x u→Grow c c'→next (a.put o.dst u) c'.w) (hd:∀ c,o.op≠ .defer c) {x:SV} {u:Value} (hx:aB c x u) (h:k x c.H)
 (hr:(execOp a.eval o).run P c.w= .ok (.value u) c.w):o.wpIn (FR ρ) 0 P a c.w next Q:=
 eQ hd hr (hk x c u h hi.heap hx (Grow.refl c))
theorem sH (c:Cx) (sz:Nat) (x:SV) (b:Nat) (w':World):aB (c.add (.cells 0 sz [x]) (some (b,0)) w') (.ptr c.H.length 0 0 0) (.pointer (some ⟨b,0,none⟩)):=by
 simp[aB,Value.oneCell']
theorem KA {t:Nat} (hT:aI P T) (hi:Inv G nt B c env a) (ho:o.op= .alloc t) (h:cH P G T own env c.H o.dst o.type (.alloc t) k)
 (hk:∀ x c' u,k x c'.H→aM c'→aB c' x u→Grow c c'→next (a.put o.dst u) c'.w):o.wpIn (FR ρ) 0 P a c.w next Q:=by
 obtain⟨i,h1,h2⟩:=h
 obtain⟨_,info,z,h3,h4,h5,h6,h7,h8⟩:=hT t i h1
 obtain⟨z1,z2⟩:=h7 c
 obtain⟨g1,g2⟩:=fY hi.heap (sz:=i.size) (xs:=[i.zero]) (vs:=[z]) (ax.bG z1 ax.bQ) (by intro u hu;simp at hu;subst hu;exact⟨h8,z2⟩) z.cells [] (by simp[cellsOf]) t (0,0) (.inl rfl) (w0:=c.w) rfl rfl rfl rfl
 refine eQ (u:= .pointer (some ⟨c.w.heap.size,0,none⟩)) (w':=c.w.alloc (.cells z.cells t)) (by rw[ho];intro _ e;cases e) ?_ (hk _ (c.add (.cells 0 i.size [i.zero]) (some (c.w.heap.size,0)) (c.w.alloc (.cells z.cells t))) _ h2 g2 ?_ g1)
 ·simp[execOp,ho,Instr.alloc,zeroValue,typeInfo,h3,h6,newVar,newRow]
 ·exact sH _ _ _ _ _
theorem OU {t:Nat} {x:Operand} (hT:aI P T) (hi:Inv G nt B c env a) (ho:o.op= .box t x) (h:cH P G T own env c.H o.dst o.type (.box t x) k)
 (hk:∀ x c' u,k x c'.H→aM c'→aB c' x u→Grow c c'→next (a.put o.dst u) c'.w):o.wpIn (FR ρ) 0 P a c.w next Q:=by
 obtain⟨i,h1,v,h2,hf,h3⟩:=h
 have hv:=bR hi h2
 obtain⟨f1,f2,_,_⟩:=hv.dS hf
 obtain⟨g1,g2⟩:=fY hi.heap (sz:=i.size) (xs:=[v]) (vs:=[a.eval x]) (ax.bG hv ax.bQ) (by intro u hu;simp at hu;subst hu;exact⟨f2,f1⟩) (a.eval x).cells [] (by simp[cellsOf]) t (0,0) (.inl rfl) (w0:=c.w) rfl rfl rfl rfl
 refine eQ (u:= .pointer (some ⟨c.w.heap.size,0,none⟩)) (w':=c.w.alloc (.cells (a.eval x).cells t)) (by rw[ho];intro _ e;cases e) ?_ (hk _ (c.add (.cells 0 i.size [v]) (some (c.w.heap.size,0)) (c.w.alloc (.cells (a.eval x).cells t))) _ h3 g2 ?_ g1)
 ·simp[execOp,ho,Instr.box,newVar,newRow]
 ·exact sH _ _ _ _ _
theorem cr {H:List av} {id g sz:Nat} {vals:List SV} (h:cG H id g=some (sz,vals)):H[id]? =some (.cells g sz vals):=by
 unfold cG at h
 split at h
 ·rename_i g' s' v' hb
  split at h
  ·rename_i e;cases h;subst e;exact hb
  ·cases h
 ·cases h
theorem aB.oe {id g j off sz:Nat} {vals:List SV} {v:Value} (h:aB c (.ptr id g j off) v) (hb:c.H[id]? =some (.cells g sz vals)):j<vals.length∧∃ b o,c.θ id=some (b,o)∧v= .pointer (some ⟨b,o+j*sz+off,none⟩):=by
 simp only[aB,hb] at h
 rcases h.2 with h|⟨_,h1,h2⟩
 ·omega
 ·exact⟨h1,h2⟩
theorem Fh (hc:aM c) {p:SV} {v:Value} (hp:aB c p v) {i:TI} {x:SV} (h:mX c.H i p=some x):
 ∃ b o u,v= .pointer (some ⟨b,o,none⟩)∧aB c x u∧fits i x=true∧c.w.rangeAt b o u.cells.toList:=by
 cases p with
 |gM y=>
  simp only[mX] at h
  simp only[aB] at hp
  obtain⟨b,o,u,rfl,h1,h2,h3,h4⟩:=hp
  obtain⟨u',h5,h6,h7⟩:=rT h1 h
  exact⟨b,o,u',rfl,h5,h6,fun j v hv=>h3 j v (by simpa using h7 j v hv)⟩
 |ptr id g j off=>
  simp only[mX] at h
  split at h
  ·rename_i sz vals hb
   split at h
   ·rename_i y hy
    have hb':=cr hb
    obtain⟨hj,b,o,h1,rfl⟩:=hp.oe hb'
    rcases hc.dQ id _ hb' with⟨h2,_⟩|⟨b',o',cs,T,fr,vs,h2,h3,h4,h5,h6,h7⟩
    ·rw[h1] at h2;cases h2
    ·rw[h1] at h2;cases h2
     obtain⟨u,h8,h9⟩:=h5.get hy
     obtain⟨u',h10,h11,h12⟩:=rT h9 h
     refine⟨b,o+j*sz+off,u',rfl,h10,h11,fun n v hv=>?_⟩
     have:=iO h7 (fun u hu=>(h6 u hu).1) h8 (off+n) v (h12 n v hv)
     rwa[show o+j*sz+(off+n)=o+j*sz+off+n by omega] at this
   ·cases h
  ·cases h
 |_=>simp[mX] at h
theorem MU {t:Nat} {x:Operand} (hT:aI P T) (hi:Inv G nt B c env a) (ho:o.op= .load t x) (h:cH P G T own env c.H o.dst o.type (.load t x) k)
 (hk:∀ x c' u,k x c'.H→aM c'→aB c' x u→Grow c c'→next (a.put o.dst u) c'.w):o.wpIn (FR ρ) 0 P a c.w next Q:=by
 obtain⟨i,h1,p,h2,v,h3,h4⟩:=h
 obtain⟨b,o',u,h5,h6,h7,h8⟩:=Fh hi.heap (bR hi h2) h3
 refine wp_pure hi hk (by rw[ho];intro _ e;cases e) h6 h4 ?_
 have:=ni (hT t i h1) h6 h7 h8
 simp[execOp,ho,Instr.loadAt,h5,Instr.sureAddr,this]
theorem di (b:Nat):∀ (vs:List Value) (o:Nat) (w:World) (k:Nat),k≠b→(w.setCells b o vs).heap[k]? =w.heap[k]?
 |[],_,_,_,_=>rfl
 |v::r,o,w,k,h=>by rw[World.setCells,di b r _ _ k h,RowKit.Below.heap_setCell _ _ _ _ h]
theorem gX (b:Nat):∀ (vs:List Value) (o:Nat) (w:World),(w.setCells b o vs).heap.size=w.heap.size
 |[],_,_=>rfl
 |v::r,o,w=>by rw[World.setCells,gX b r];simp[World.setCell]
theorem cJ (b:Nat):∀ (vs:List Value) (o:Nat) (w:World),(w.setCells b o vs).os=w.os∧(w.setCells b o vs).tape=w.tape∧(w.setCells b o vs).output=w.output
 |[],_,_=>⟨rfl,rfl,rfl⟩
 |v::r,o,w=>by rw[World.setCells];exact cJ b r _ _
theorem fp (b:Nat):∀ (vs:List Value) (o:Nat) (w:World) {cs:Array Value} {T:TypeId} {fr:Nat×Nat},w.heap[b]? =some (.cells cs T fr)→∃ cs',(w.setCells b o vs).heap[b]? =some (.cells cs' T fr)∧cs'.size=cs.size
 |[],_,_,cs,_,_,h=>⟨cs,h,rfl⟩
 |v::r,o,w,cs,T,fr,h=>by
  rw[World.setCells]
  obtain⟨cs',h1,h2⟩:=fp b r (o+1) (w.setCell ⟨b,o,none⟩ v) (cs:=cs.setIfInBounds o v) (T:=T) (fr:=fr) (by simp[World.setCell,Array.getElem?_modify,h])
  exact⟨cs',h1,by rw[h2];simp⟩
end
end
section
theorem gV {w:World} {b:Nat} {cs:Array Value} {T:TypeId} {fr:Nat×Nat} (h:w.heap[b]? =some (.cells cs T fr)) (hf:gn cs fr) {o n:Nat} (hn:o+n≤cs.size):w.there b o n:=fun j hj=>by
 refine⟨?_,?_⟩
 ·rw[jP h];simp;omega
 ·simp only[World.frozen?,h,Bool.and_eq_false_iff,decide_eq_false_iff_not]
  rcases hf with hf|hf<;>omega
theorem fo {w:World} {b:Nat} {cs:Array Value} {T:TypeId} {fr:Nat×Nat} (h:w.heap[b]? =some (.cells cs T fr)) {o:Nat} {l:List Value} (hr:w.rangeAt b o l) (hl:0<l.length):o+l.length≤cs.size:=by
 have:=hr (l.length - 1) _ (List.getElem?_eq_getElem (by omega))
 rw[jP h] at this
 have:=(Array.getElem?_eq_some_iff.1 this).1
 omega
theorem oO {w:World} {b o:Nat} {A X0 X B:List Value} (h:w.rangeAt b o (A++X0++B)) (hl:X.length=X0.length) (ht:w.there b (o+A.length) X.length):(w.setCells b (o+A.length) X).rangeAt b o (A++X++B):=by
 have hA:=lO (lO h)
 have hB:=oN h
 rw[List.length_append] at hB
 refine gq (gq ?_ ?_) ?_
 ·exact World.rangeAt_setCells_apart hA _ _ _ (.inr (.inl (by omega)))
 ·exact World.rangeAt_setCells_same _ _ _ _ ht
 ·rw[List.length_append,hl]
  exact World.rangeAt_setCells_apart hB _ _ _ (.inr (.inr (by omega)))
theorem sT {P:Program} {t n:Nat} (hn:(P.info? t).map (·.size)=some n) {v:Value} (hv:cq v) (hs:v.cells.size=n) {w:World} {b o:Nat} (ht:w.there b o n):
 (storeVar t ⟨b,o,none⟩ v).run P w= .ok () (w.setCells b o v.cells.toList):=by
 have hst:=run_storeCells_cells (P:=P) b o v.cells.toList 0 w (fun j hj=>by simpa using (ht j (by simpa [hs] using hj)).1) (fun j hj=>by simpa using (ht j (by simpa [hs] using hj)).2) hv
 cases hq:P.info? t with
 |none=>simp[hq] at hn
 |some i=>
  have hs':i.size=n:=by simpa [hq] using hn
  simp only[Nat.add_zero] at hst
  simp[storeVar,sizeOf,typeInfo,hq,hs,hs',hst]
theorem xO {α:Type} (l:List α) (off n:Nat):l=l.take off++(l.drop off).take n++l.drop (off+n):=by
 rw[List.append_assoc,← List.drop_drop,List.take_append_drop,List.take_append_drop]
theorem yf {α:Type} {l:List α} {j:Nat} {x:α} (h:l[j]? =some x) (y:α):l=l.take j++x::l.drop (j+1)∧l.set j y=l.take j++y::l.drop (j+1)∧(l.take j).length=j:=by
 obtain⟨hj,rfl⟩:=List.getElem?_eq_some_iff.1 h
 refine⟨?_,List.set_eq_take_append_cons_drop .. |>.trans (if_pos hj),by simp;omega⟩
 rw[List.getElem_cons_drop,List.take_append_drop]
section
variable {P:Program} {G:Gl} {T:bX} {own:List Nat} {nt B:Nat} {c:Cx} {env:List (Nat×SV)} {a:Act} {ρ:Option Nat}
variable {o:Oper} {next:Act→World→Prop} {Q:Exit→Act→World→Prop} {k:SV→List av→Prop}
theorem jC (b o:Nat) (vs:List Value) (w:World):∀ (b':Nat) (cs:Array Value) (T:TypeId) (fr:Nat×Nat),w.heap[b']? =some (Obj.cells cs T fr)→∃ (cs':Array Value) (fr':Nat×Nat),(w.setCells b o vs).heap[b']? =some (Obj.cells cs' T fr')∧cs'.size=cs.size:=fun b' cs T fr h=>by
 by_cases e:b'=b
 ·subst e
  obtain⟨cs',h1,h2⟩:=fp b' vs o w h
  exact⟨cs',fr,h1,h2⟩
 ·exact⟨cs,fr,by rw[di b vs o w b' e];exact h,rfl⟩
theorem Ki (hi:Inv G nt B c env a) {t:Nat} {i:TI} (ht:bT P t i) {p y:SV} {pv v:Value} (hp:aB c p pv) (hy:aB c y v) {H':List av} (h:oq c.H i y p=some H'):
 ∃ c',(Instr.storeAt t pv v).run P c.w= .ok () c'.w∧c'.H=H'∧aM c'∧Grow c c':=by
 cases p with
 |ptr id g j off=>
  simp only[oq] at h
  split at h
  ·rename_i sz vals hb
   split at h
   ·rename_i x hx
    split at h
    ·rename_i z hz
     split at h
     ·rename_i hf
      cases h
      have hb':=cr hb
      obtain⟨hj,b,o,h1,rfl⟩:=hp.oe hb'
      rcases hi.heap.dQ id _ hb' with⟨h2,_⟩|⟨b',o',cs,Ty,fr,vs,h2,h3,h4,h5,h6,h7⟩
      ·rw[h1] at h2;cases h2
      ·rw[h1] at h2;cases h2
       obtain⟨u,h8,h9⟩:=h5.get hx
       obtain⟨f1,f2,f3,f4⟩:=hy.dS hf
       have hyl:y.leaf=true∨y.isAgg=true:=by
        unfold fits at hf
        split at hf
        ·simp only[Bool.and_eq_true] at hf;exact .inr hf.1
        ·simp only[Bool.and_eq_true] at hf;exact .inl hf.1
       obtain⟨u',g1,g2,g3,g4,g5⟩:=yj h9 hy hyl hz
       obtain⟨e1,e2,e3⟩:=yf h8 u'
       have hsz:∀ u∈vs,u.cells.size=sz:=fun u hu=>(h6 u hu).1
       have hA0:(cellsOf (vs.take j)).length=j*sz:=by rw[ba (fun u hu=>hsz u (List.mem_of_mem_take hu)),e3]
       have huc:u.cells.toList.length=sz:=by rw[Array.length_toList];exact hsz u (List.mem_of_getElem? h8)
       have hvc:v.cells.toList.length=v.cells.size:=Array.length_toList
       have hcut:=xO u.cells.toList off v.cells.size
       have hL:cellsOf vs=(cellsOf (vs.take j)++u.cells.toList.take off)++(u.cells.toList.drop off).take v.cells.size++(u.cells.toList.drop (off+v.cells.size)++cellsOf (vs.drop (j+1))):=by
        conv=>lhs;rw[e1,bS,ez,hcut]
        simp[List.append_assoc]
       have hAl:(cellsOf (vs.take j)++u.cells.toList.take off).length=j*sz+off:=by
        rw[List.length_append,hA0,List.length_take]
        have:u.cells.size=u.cells.toList.length:=Array.length_toList.symm
        omega
       have hL':cellsOf (vs.set j u')=(cellsOf (vs.take j)++u.cells.toList.take off)++v.cells.toList++(u.cells.toList.drop (off+v.cells.size)++cellsOf (vs.drop (j+1))):=by
        rw[e2,bS,ez,g5]
        simp[List.append_assoc]
       have hus:u.cells.size=sz:=hsz u (List.mem_of_getElem? h8)
       have hjl:j<vs.length:=(List.getElem?_eq_some_iff.1 h8).1
       have hthere:c.w.there b (o+(j*sz+off)) v.cells.size:=by
        by_cases h0:v.cells.size=0
        ·intro j hj;omega
        ·refine gV h3 h4 ?_
         have h10:=fo h3 (iO h7 hsz h8) (by omega)
         omega
       have hw:=oO (b:=b) (o:=o) (A:=cellsOf (vs.take j)++u.cells.toList.take off) (X:=v.cells.toList) (w:=c.w) (hL ▸ h7) (by
        rw[hvc,List.length_take,List.length_drop];omega) (by rw[hAl,hvc];exact hthere)
       rw[hAl,← hL'] at hw
       obtain⟨cs',hc1,hc2⟩:=fp b v.cells.toList (o+(j*sz+off)) c.w h3
       obtain⟨t1,t2⟩:=Cx.oB hi.heap (w':=c.w.setCells b (o+(j*sz+off)) v.cells.toList) hb' rfl (B':= .cells g sz (vals.set j z)) (c.θ id)
        ⟨g,_,rfl,Nat.le_refl _,fun _=>⟨rfl,by simp⟩,fun b' o' h'=> .inr ⟨o',h'⟩⟩
        (fun k' hk' hno=>di b _ _ _ k' (fun e=>hno o (by rw[h1,e])))
        (by rw[gX];exact Nat.le_refl _) (cJ ..).1 (cJ ..).2.1 (cJ ..).2.2
        (jC b _ _ _) (fun hg=> .inr ⟨b,o,cs',Ty,fr,vs.set j u',by simp[h1],hc1,by unfold gn;rw[hc2];exact h4,(h5.set j g1).grow hg,fun q hq=>by
         rcases List.mem_or_eq_of_mem_set hq with hq|rfl
         ·exact h6 q hq
         ·exact⟨by rw[g3,hus],g2⟩,hw⟩)
       refine⟨_,?_,rfl,t2,t1⟩
       obtain⟨_,info,z',i1,i2,_⟩:=ht
       have hrun:=sT (P:=P) (t:=t) (n:=v.cells.size) (by rw[i1];simp[i2,f2]) f1 rfl (w:=c.w) (b:=b) (o:=o+(j*sz+off)) hthere
       have hadd:o+j*sz+off=o+(j*sz+off):=by omega
       simp only[Instr.storeAt,Instr.sureAddr,Sem.run_bind,Sem.run_pure,Result.andThen_ok,hadd,hrun]
     ·cases h
    ·cases h
   ·cases h
  ·cases h
 |_=>simp[oq] at h
theorem KI {t:Nat} {x y:Operand} (hT:aI P T) (hi:Inv G nt B c env a) (ho:o.op= .store t x y) (h:cH P G T own env c.H o.dst o.type (.store t x y) k)
 (hk:∀ x c' u,k x c'.H→aM c'→aB c' x u→Grow c c'→next (a.put o.dst u) c'.w):o.wpIn (FR ρ) 0 P a c.w next Q:=by
 obtain⟨i,h1,p,h2,v,h3,H',h4,h5⟩:=h
 obtain⟨c',g1,rfl,g3,g4⟩:=Ki hi (hT t i h1) (bR hi h2) (bR hi h3) h4
 refine KG (w':=c'.w) (by rw[ho];intro _ e;cases e) ?_ (hk .undef c' undef h5 g3 aB.undef g4)
 simp[execOp,ho,g1]
end
end
section
section
variable {P:Program} {G:Gl} {T:bX} {own:List Nat} {nt B:Nat} {c:Cx} {env:List (Nat×SV)} {a:Act} {ρ:Option Nat}
variable {o:Oper} {next:Act→World→Prop} {Q:Exit→Act→World→Prop} {k:SV→List av→Prop}
theorem D9 (hc:aM c) {x:SV} {v:Value} (hx:aB c x v) {ys:List SV} (hs:dU c.H x=some ys) {sz:Nat} (hz:lT c.H sz x=true):
 ∃ a cap vs,v= .slice a ys.length cap∧ys.length≤cap∧cap≤maxLen∧ax c ys vs∧(∀ u∈vs,u.cells.size=sz∧cq u)∧(ys=[]∨∃ b o,a=some ⟨b,o,none⟩∧c.w.rangeAt b o (cellsOf vs)):=by
 cases x with
 |nil=>
  simp only[dU] at hs;cases hs
  simp only[aB] at hx
  exact⟨none,0,[],hx,Nat.le_refl _,Nat.zero_le _,ax.bQ,by simp,.inl rfl⟩
 |list n xs=>
  simp only[dU] at hs;cases hs
  simp only[lT,beq_iff_eq] at hz;subst hz
  simp only[aB] at hx
  obtain⟨a,cap,h0,h1,h2,h3⟩:=hx
  rcases h3 with rfl|⟨b,o,vs,h3,h4,h5,h6,h7⟩
  ·exact⟨a,cap,[],h0,h1,h2,ax.bQ,by simp,.inl rfl⟩
  ·exact⟨a,cap,vs,h0,h1,h2,h4,h5,.inr ⟨b,o,h3,h6⟩⟩
 |sl id g off len=>
  simp only[dU] at hs
  split at hs
  ·rename_i sz' vals hb
   cases hs
   simp only[lT,hb,beq_iff_eq] at hz;subst hz
   have hb':=cr hb
   simp only[aB,hb'] at hx
   rcases hx.2 with hx|⟨_,h1,a,cap,h2,h3,h4,h5⟩
   ·omega
   have hlen:((vals.drop off).take len).length=len:=by simp;omega
   rw[hlen]
   rcases hc.dQ id _ hb' with⟨h6,h7⟩|⟨b,o,cs,Ty,fr,vs,h6,h7,h8,h9,h10,h11⟩
   ·subst h7
    have:len=0:=by have:=h1;simp only[List.length_nil] at this;omega
    subst this
    exact⟨a,cap,[],h2,h3,h4,by simpa using ax.bQ,by simp,.inl (by simp)⟩
   ·refine⟨a,cap,(vs.drop off).take len,h2,h3,h4,(h9.drop off).take len,fun u hu=>h10 u (List.mem_of_mem_drop (List.mem_of_mem_take hu)),?_⟩
    rcases h5 with h5|⟨b',o',cs',T',fr',h12,h13,h14,h15⟩
    ·have:len=0:=by omega
     subst this;exact .inl (by simp)
    ·rw[h6] at h12;cases h12
     exact .inr ⟨b,o+off*sz',h13,iP (fm h11 (fun u hu=>(h10 u hu).1) off (by rw[h9.length];omega)) len⟩
  ·cases hs
 |_=>simp[dU] at hs
theorem oY {vs:List Value} (h:∀ u∈vs,cq u):∀ x∈cellsOf vs,x.oneCell'=true:=by
 intro x hx
 simp only[cellsOf,List.mem_flatMap] at hx
 obtain⟨u,hu,hx⟩:=hx
 exact h u hu x hx
theorem ON (hc:aM c) {x:SV} {v:Value} (hx:aB c x v) {ys:List SV} (hs:dU c.H x=some ys) {sz:Nat} (hz:lT c.H sz x=true) {tx e':Nat} (htx:P.underlying tx=some (.slice e')):
 ∃ vs,ax c ys vs∧(∀ u∈vs,u.cells.size=sz∧cq u)∧Src P sz tx v ys.length (cellsOf vs) c.w:=by
 obtain⟨a,cap,vs,h1,h2,h3,h4,h5,h6⟩:=D9 hc hx hs hz
 refine⟨vs,h4,h5,?_⟩
 have hone:=oY (fun u hu=>(h5 u hu).2)
 have hlen:(cellsOf vs).length=ys.length*sz:=by rw[ba (fun u hu=>(h5 u hu).1),h4.length]
 rw[h1]
 rcases h6 with h6|⟨b,o,h6,h7⟩
 ·subst h6
  rw[ax.dm.1 h4] at hlen hone ⊢
  cases a with
  |none=>exact Src.ofNil c.w htx cap
  |some a=>exact Src.ofSlice c.w htx a 0 cap [] (by simp) (by simp) (by simp)
 ·rw[h6]
  exact Src.ofSlice c.w htx _ _ cap _ hlen (fun j u hj=>by rw[Addr.add_mid];exact h7 j u hj) hone
theorem Ad (s:List UInt8) {tx:Nat} (htx:P.underlying tx=some .string):
 ∃ vs,ax c (dN s) vs∧(∀ u∈vs,u.cells.size=1∧cq u)∧Src P 1 tx (.string ⟨⟨s⟩⟩) (dN s).length (cellsOf vs) c.w:=by
 refine⟨s.map fun b=> .int .u8 b.toNat,?_,?_,?_⟩
 ·induction s with
  |nil=>exact ax.bQ
  |cons b s ih=>
   refine ax.bG ?_ ih
   simp only[aB,IntKind.min,IntKind.max,IntKind.signed,IntKind.bits]
   have:=b.toNat_lt
   refine⟨trivial,?_,?_⟩<;>simp<;>omega
 ·intro u hu
  simp only[List.mem_map] at hu
  obtain⟨b,_,rfl⟩:=hu
  exact⟨rfl,fZ rfl⟩
 ·have h:=Src.ofString (P:=P) c.w htx ⟨⟨s⟩⟩
  have e1:(⟨⟨s⟩⟩:ByteArray).size=(dN s).length:=by simp[dN,ByteArray.size]
  have e2:byteCells ⟨⟨s⟩⟩=cellsOf (s.map fun b=>Value.int .u8 b.toNat):=by
   have:∀ l:List UInt8,l.map (fun b=>Value.int .u8 b.toNat)=l.flatMap fun b=>[Value.int .u8 b.toNat]:=by intro l;induction l<;>simp_all
   simp only[byteCells,cellsOf,List.flatMap_map]
   exact this s
  rw[e1,e2] at h
  exact h
theorem iW {z:Value} {sz:Nat} (hz:z.cells.size=sz) (n:Nat):(Builtin.zeroCells z.cells n).size=n*sz:=by rw[size_zeroCells,hz]
theorem eZ (c:Cx) (sz:Nat) (ys:List SV) (θ0:Option (Nat×Nat)) (w':World) {a:Option Addr} {cap:Nat} (h1:ys.length≤cap) (h2:cap≤maxLen)
 (h3:(cap=0∧(sz=0∨ys.length≤0))∨∃ b cs Ty fr,θ0=some (b,0)∧a=some ⟨b,0,none⟩∧w'.heap[b]? =some (.cells cs Ty fr)∧cap*sz=cs.size):
 aB (c.add (.cells 0 sz ys) θ0 w') (.sl c.H.length 0 0 ys.length) (.slice a ys.length cap):=by
 simp only[aB,List.getElem?_concat_length]
 refine⟨rfl,.inr ⟨trivial,by omega,a,cap,rfl,h1,h2,?_⟩⟩
 rcases h3 with h3|⟨b,cs,Ty,fr,h3,h4,h5,h6⟩
 ·exact .inl h3
 ·exact .inr ⟨b,0,cs,Ty,fr,by simp[h3],by simpa using h4,h5,by simpa using h6⟩
theorem pw (c:Cx) {id:Nat} {B0:av} (hB:c.H[id]? =some B0) (g sz:Nat) (xs:List SV) (n:Nat) (hn:n≤xs.length) (θ0:Option (Nat×Nat)) (w':World) {a:Option Addr} {cap:Nat} (h1:n≤cap) (h2:cap≤maxLen)
 (h3:(cap=0∧(sz=0∨xs.length≤0))∨∃ b o cs Ty fr,θ0=some (b,o)∧a=some ⟨b,o,none⟩∧w'.heap[b]? =some (.cells cs Ty fr)∧o+cap*sz=cs.size):
 aB (c.Nu id (.cells g sz xs) θ0 w') (.sl id g 0 n) (.slice a n cap):=by
 have hl:=(List.getElem?_eq_some_iff.1 hB).1
 simp only[aB,List.getElem?_set_self hl]
 refine⟨rfl,.inr ⟨trivial,by omega,a,cap,rfl,h1,h2,?_⟩⟩
 rcases h3 with h3|⟨b,o,cs,Ty,fr,h3,h4,h5,h6⟩
 ·exact .inl h3
 ·exact .inr ⟨b,o,cs,Ty,fr,by simp[h3],by simpa using h4,h5,by simpa using h6⟩
theorem v7 (hi:aM c) {id g sz:Nat} {vals:List SV} (hb:c.H[id]? =some (.cells g sz vals)) {b o:Nat} (hθ:c.θ id=some (b,o)) (p:Nat) {ys:List SV} {vs:List Value} (hv:ax c ys vs) (hu:∀ u∈vs,u.cells.size=sz∧cq u) (hp:p+ys.length≤vals.length):
 c.w.there b (o+p*sz) (cellsOf vs).length∧
  Grow c (c.Nu id (.cells g sz (vals.take p++ys++vals.drop (p+ys.length))) (some (b,o)) (c.w.setCells b (o+p*sz) (cellsOf vs)))∧
  aM (c.Nu id (.cells g sz (vals.take p++ys++vals.drop (p+ys.length))) (some (b,o)) (c.w.setCells b (o+p*sz) (cellsOf vs))):=by
 rcases hi.dQ id _ hb with⟨h10,_⟩|⟨b',o',cs,Ty,fr,us,h10,h11,h12,h13,h14,h15⟩
 ·rw[hθ] at h10;cases h10
 ·rw[hθ] at h10;cases h10
  have hus:us.length=vals.length:=h13.length
  have hvs:vs.length=ys.length:=hv.length
  have hcl:(cellsOf us).length=vals.length*sz:=by rw[ba (fun u h=>(h14 u h).1),hus]
  have hcv:(cellsOf vs).length=ys.length*sz:=by rw[ba (fun u h=>(hu u h).1),hvs]
  have hsplit:us=us.take p++(us.drop p).take ys.length++us.drop (p+ys.length):=xO us p ys.length
  have h1:∀ u∈us.take p,u.cells.size=sz:=fun u h=>(h14 u (List.mem_of_mem_take h)).1
  have h2:∀ u∈(us.drop p).take ys.length,u.cells.size=sz:=fun u h=>(h14 u (List.mem_of_mem_drop (List.mem_of_mem_take h))).1
  have hA:(cellsOf (us.take p)).length=p*sz:=by rw[ba h1,List.length_take,hus];congr 1;omega
  have hX:(cellsOf ((us.drop p).take ys.length)).length=ys.length*sz:=by rw[ba h2,List.length_take,List.length_drop,hus];congr 1;omega
  have hthere:c.w.there b (o+p*sz) (cellsOf vs).length:=by
   rcases Nat.eq_zero_or_pos (cellsOf vs).length with h0|h0
   ·rw[h0];intro j hj;omega
   ·have hm:(p+ys.length)*sz≤vals.length*sz:=Nat.mul_le_mul_right _ hp
    rw[Nat.add_mul] at hm
    have:=fo h11 h15 (by rw[hcl];omega)
    rw[hcl] at this
    exact gV h11 h12 (by omega)
  have hr:c.w.rangeAt b o (cellsOf (us.take p)++cellsOf ((us.drop p).take ys.length)++cellsOf (us.drop (p+ys.length))):=by
   rw[← bS,← bS,← hsplit];exact h15
  have hw:=oO (X:=cellsOf vs) hr (by rw[hcv,hX]) (by rw[hA];exact hthere)
  rw[hA,← bS,← bS] at hw
  obtain⟨cs2,hc1,hc2⟩:=fp b (cellsOf vs) (o+p*sz) c.w h11
  obtain⟨g1,g2⟩:=Cx.oB hi (w':=c.w.setCells b (o+p*sz) (cellsOf vs)) hb rfl (B':= .cells g sz (vals.take p++ys++vals.drop (p+ys.length))) (some (b,o))
   ⟨g,_,rfl,Nat.le_refl _,fun _=>⟨hθ.symm,by simp;omega⟩,fun b' o' h=> .inr ⟨o,by cases h;exact hθ⟩⟩
   (fun k' hk' hno=>di b _ _ _ k' (fun e=>hno o (by rw[hθ,e])))
   (by rw[gX];exact Nat.le_refl _) (cJ ..).1 (cJ ..).2.1 (cJ ..).2.2 (jC b _ _ _)
   (fun hg=> .inr ⟨b,o,cs2,Ty,fr,us.take p++vs++us.drop (p+ys.length),by simp,hc1,by unfold gn;rw[hc2];exact h12,(((h13.take p).append hv).append (h13.drop _)).grow hg,fun q hq=>by
    rcases List.mem_append.1 hq with hq|hq
    ·rcases List.mem_append.1 hq with hq|hq
     ·exact h14 q (List.mem_of_mem_take hq)
     ·exact hu q hq
    ·exact h14 q (List.mem_of_mem_drop hq),hw⟩)
  exact⟨hthere,g1,g2⟩
theorem vJ {H:List av} {id:Nat} {x:av} (h:H[id]? =some x):H.set id x=H:=by
 apply List.ext_getElem?
 intro i
 rw[List.getElem?_set]
 split
 ·rename_i e;subst e;rw[h];simp[(List.getElem?_eq_some_iff.1 h).1]
 ·rfl
theorem mw {α:Type} (l:List α) (p:Nat):l.take p++[]++l.drop (p+0)=l:=by simp
theorem zX {id g sz off:Nat} {vals:List SV} (hb:c.H[id]? =some (.cells g sz vals)) {b o n:Nat} (hθ:c.θ id=some (b,o)) (p:Nat) (ys:List SV) (cells:List Value) (q:Nat) (hp:p+ys.length≤vals.length) (hn:off+n≤vals.length) {aa:Option Addr} {cap:Nat} (hcap:n≤cap) (hcm:cap≤maxLen)
 (hcapd:(cap=0∧(sz=0∨vals.length≤off))∨∃ b o cs T fr,c.θ id=some (b,o)∧aa=some ⟨b,o+off*sz,none⟩∧c.w.heap[b]? =some (.cells cs T fr)∧o+(off+cap)*sz=cs.size):
 aB (c.Nu id (.cells g sz (vals.take p++ys++vals.drop (p+ys.length))) (some (b,o)) (c.w.setCells b q cells)) (.sl id g off n) (.slice aa n cap):=by
 have hl:=(List.getElem?_eq_some_iff.1 hb).1
 simp only[aB,List.getElem?_set_self hl]
 refine⟨rfl,.inr ⟨trivial,by simp;omega,aa,cap,rfl,hcap,hcm,?_⟩⟩
 rcases hcapd with h|⟨b',o',cs,T,fr,h1,h2,h3,h4⟩
 ·exact .inl ⟨h.1,by simp;omega⟩
 ·rw[hθ] at h1
  cases h1
  obtain⟨cs2,hc1,hc2⟩:=fp b cells q c.w h3
  exact .inr ⟨b,o,cs2,T,fr,by simp,h2,hc1,by rw[hc2];exact h4⟩
theorem iZ {P:Program} {t tx e:Nat} {info:TypeInfo} (ht:P.underlying t=some (.slice e)) (i1:P.info? e=some info) {a:Option Addr} {len cap:Nat} (hc:len≤cap) {xv:Value} {w:World} (hsrc:Src P info.size tx xv 0 [] w) (ty:Nat):
 (Builtin.append_ #[t,tx] ty #[.slice a len cap,xv]).run P w= .ok (.slice a len cap) w:=by
 have h0:=hsrc.cells
 have hl:=hsrc.len
 rcases hsrc.kind with⟨e',hk⟩|hk<;>cases a<;>
  simp[Builtin.append_,run_underlying ht,run_underlying hk,sizeOf,typeInfo,i1,hl,h0,hc,storeCells]
theorem FX (hi:aM c) {t tx e:Nat} {ei:TI} (ht:P.underlying t=some (.slice e)) (hei:bT P e ei) {s:SV} {sv xv:Value} (hs:aB c s sv) {ys:List SV} {vs:List Value} (hv:ax c ys vs) (hu:∀ u∈vs,u.cells.size=ei.size∧cq u)
 (hsrc:Src P ei.size tx xv ys.length (cellsOf vs) c.w) (ty:Nat) (h:eX c.H ei s ys k):
 ∃ x c' u,k x c'.H∧aM c'∧aB c' x u∧Grow c c'∧(Builtin.append_ #[t,tx] ty #[sv,xv]).run P c.w= .ok u c'.w:=by
 obtain⟨hd,info,z,i1,i2,i3,i4,i5,i6⟩:=hei
 have hvl:(cellsOf vs).length=ys.length*ei.size:=by rw[ba (fun u h=>(hu u h).1),hv.length]
 cases s with
 |nil=>
  simp only[aB] at hs
  subst hs
  obtain⟨hb0,hb,hk⟩:=h
  by_cases hn:ys.length=0
  ·have hys:ys=[]:=List.eq_nil_of_length_eq_zero hn
   subst hys
   have hcell:vs=[]:=ax.dm.1 hv
   subst hcell
   obtain⟨g1,g2⟩:=Cx.fresh hi c.w.heap.size (Nat.le_refl _) 0 none (.inl rfl) (.cells 0 ei.size []) (w':=c.w) (fun _ _=>rfl) (Nat.le_refl _) rfl rfl rfl (fun hg=> .inl ⟨by simp,rfl⟩)
   exact⟨_,c.add (.cells 0 ei.size []) none c.w,.slice none 0 0,hk,g2,eZ c ei.size [] none c.w (Nat.le_refl _) (Nat.zero_le _) (.inl ⟨rfl,.inr (Nat.le_refl _)⟩),g1,iZ ht i1 (Nat.le_refl _) (i2 ▸ hsrc) ty⟩
  ·have hbig:ys.length≤70368744177664:=Nat.le_trans (Nat.le_mul_of_pos_right _ hb0) hb
   have hrun:=run_append_grow_src (P:=P) c.w t tx ty e info z ht i1 i4 none 0 0 [] (by simp[Builtin.firstCells]) xv ys.length (cellsOf vs) (i2 ▸ hsrc) (by omega) (by omega)
    (by rw[Nat.zero_add];exact growslice_fits (by omega) (by rw[i3];omega))
   simp only[Nat.zero_add,List.nil_append] at hrun
   have hcap:=grownCap_ge c.w ys.length 0 e
   have hcap2:=grownCap_le_maxLen c.w ys.length 0 e (by unfold maxLen;omega)
   generalize grownCap c.w ys.length 0 e=cap at hrun hcap hcap2
   obtain⟨g1,g2⟩:=fY hi hv hu ((cellsOf vs).toArray++Builtin.zeroCells z.cells (cap - ys.length)) (Builtin.zeroCells z.cells (cap - ys.length)).toList (by simp) e (0,0) (.inl rfl) (w0:=c.w.drew) rfl rfl rfl rfl
   refine⟨_,_,_,hk,g2,?_,g1,hrun⟩
   refine eZ c ei.size ys _ _ hcap hcap2 (.inr ⟨c.w.heap.size,_,e,(0,0),rfl,rfl,heap_alloc_new c.w.drew _,?_⟩)
   rw[Array.size_append,iW i6,List.size_toArray,hvl,← Nat.add_mul]
   congr 1;omega
 |sl id g off len=>
  obtain⟨⟨bsz,vals⟩,hb1,⟨hb0,hsz⟩,hb2,hor⟩:=h
  simp only at hsz hor
  subst hsz
  have hb':=cr hb1
  rcases hor with⟨hoff,hk⟩|⟨hs0,hoff,hk⟩
  rotate_left
  ·have hbig:len+ys.length≤70368744177664:=Nat.le_trans (Nat.le_mul_of_pos_right _ hb0) hb2
   have hs':=hs
   simp only[aB,hb'] at hs
   rcases hs.2 with hs|⟨_,hfit,aa,cap,rfl,hcap,hcapm,hcapd⟩
   ·omega
   by_cases hys:ys=[]
   ·subst hys
    have hcell:vs=[]:=ax.dm.1 hv
    subst hcell
    simp only[List.length_nil,mw] at hk
    rw[vJ hb'] at hk
    exact⟨_,c,.slice aa len cap,hk,hi,hs',Grow.refl c,iZ ht i1 hcap (i2 ▸ hsrc) ty⟩
   ·have hyl:0<ys.length:=List.length_pos_iff.2 hys
    rcases hi.dQ id _ hb' with⟨h10,hvn⟩|⟨b,o,cs,Ty,fr,us,h10,h11,h12,h13,h14,h15⟩
    ·rw[hvn,List.length_nil] at hoff;omega
    ·have hus:us.length=vals.length:=h13.length
     have hsz:=fo h11 h15 (by rw[ba (fun u h=>(h14 u h).1),hus];exact Nat.mul_pos (by omega) hs0)
     rw[ba (fun u h=>(h14 u h).1),hus] at hsz
     rcases hcapd with hcapd|⟨b',o',cs',T',fr',e1,e2,e3,e4⟩
     ·omega
     ·rw[h10] at e1;cases e1
      rw[h11] at e3;cases e3
      have hroom:len+ys.length≤cap:=by
       have:vals.length*ei.size≤(off+cap)*ei.size:=by omega
       have:=Nat.le_of_mul_le_mul_right this hs0
       omega
      obtain⟨hthere,g1,g2⟩:=v7 hi hb' h10 (off+len) hv hu hoff
      have hrun:=run_append_room_src (P:=P) c.w t tx ty e info ht i1 b (o+off*ei.size) len cap xv ys.length (cellsOf vs) (i2 ▸ hsrc) hroom
       (fun j hj=>by rw[i2];have:=(hthere j hj).1;rwa[Nat.add_mul,← Nat.add_assoc] at this) (fun j hj=>by rw[i2];have:=(hthere j hj).2;rwa[Nat.add_mul,← Nat.add_assoc] at this)
      rw[i2,Nat.add_assoc o,← Nat.add_mul] at hrun
      subst e2
      exact⟨_,_,_,hk,g2,zX hb' h10 (off+len) ys _ _ hoff (by omega) hroom hcapm (.inr ⟨b,o,cs,Ty,fr,h10,rfl,h11,e4⟩),g1,hrun⟩
  have hbig:len+ys.length≤70368744177664:=Nat.le_trans (Nat.le_mul_of_pos_right _ hb0) hb2
  simp only[aB,hb'] at hs
  rcases hs.2 with hs|⟨_,_,aa,cap,rfl,hcap,hcapm,hcapd⟩
  ·omega
  have hdlen:(vals.drop off).length=len:=by simp;omega
  by_cases hroom:len+ys.length≤cap
  ·rcases hcapd with hcapd|⟨b,o,cs,Ty,fr,h6,h7,h8,h9⟩
   ·
    have hl0:len=0:=by omega
    have hys:ys=[]:=List.eq_nil_of_length_eq_zero (by omega)
    have hcap0:=hcapd.1
    subst hys hl0 hcap0
    have hcell:vs=[]:=ax.dm.1 hv
    subst hcell
    have hd0:vals.drop off=[]:=List.eq_nil_of_length_eq_zero (by omega)
    rw[hd0] at hk
    obtain⟨g1,g2⟩:=Cx.oB hi (w':=c.w) hb' rfl (B':= .cells (g+1) ei.size ([]++[])) (c.θ id) ⟨g+1,_,rfl,by omega,fun e=>by omega,fun b o h=> .inr ⟨o,h⟩⟩
     (fun _ _ _=>rfl) (Nat.le_refl _) rfl rfl rfl (fun _ cs _ fr h=>⟨cs,fr,h,rfl⟩) (fun hg=>by
      rcases hi.dQ id _ hb' with⟨h6,h7⟩|⟨b,o,cs,Ty,fr,us,h6,h7,h8,h9,h10,h11⟩
      ·exact .inl ⟨by simp[h6],rfl⟩
      ·exact .inr ⟨b,o,cs,Ty,fr,[],by simp[h6],h7,h8,ax.bQ,by simp,by intro j v hj;simp[cellsOf] at hj⟩)
    exact⟨_,c.Nu id (.cells (g+1) ei.size ([]++[])) (c.θ id) c.w,.slice aa 0 0,hk,g2,pw c hb' _ _ _ 0 (by simp) _ _ (Nat.le_refl _) (Nat.zero_le _) (.inl ⟨rfl,.inr (by simp)⟩),g1,iZ ht i1 (Nat.le_refl _) (i2 ▸ hsrc) ty⟩
   ·rcases hi.dQ id _ hb' with⟨h10,_⟩|⟨b',o',cs',Ty',fr',us,h10,h11,h12,h13,h14,h15⟩
    ·rw[h6] at h10;cases h10
    ·rw[h6] at h10;cases h10
     rw[h8] at h11;cases h11
     subst h7
     have hus:us.length=vals.length:=h13.length
     have hmul:(off+cap)*ei.size=off*ei.size+len*ei.size+(cap - len)*ei.size:=by rw[← Nat.add_mul,← Nat.add_mul];congr 1;omega
     have hmul2:ys.length*ei.size≤(cap - len)*ei.size:=Nat.mul_le_mul_right _ (by omega)
     have hthere:c.w.there b (o+off*ei.size+len*ei.size) (cellsOf vs).length:=gV h8 h12 (by rw[hvl];omega)
     have hrun:=run_append_room_src (P:=P) c.w t tx ty e info ht i1 b (o+off*ei.size) len cap xv ys.length (cellsOf vs) (i2 ▸ hsrc) hroom
      (fun j hj=>by rw[i2];exact(hthere j hj).1) (fun j hj=>by rw[i2];exact(hthere j hj).2)
     rw[i2] at hrun
     have hdl:(cellsOf (us.drop off)).length=len*ei.size:=by
      rw[ba (fun u h=>(h14 u (List.mem_of_mem_drop h)).1),List.length_drop,hus];congr 1;omega
     obtain⟨cs2,hc1,hc2⟩:=fp b (cellsOf vs) (o+off*ei.size+len*ei.size) c.w h8
     have hold:=fm h15 (fun u h=>(h14 u h).1) off (by omega)
     have hw:(c.w.setCells b (o+off*ei.size+len*ei.size) (cellsOf vs)).rangeAt b (o+off*ei.size) (cellsOf (us.drop off++vs)):=by
      rw[bS]
      refine gq (World.rangeAt_setCells_apart hold _ _ _ (.inr (.inl (by omega)))) ?_
      rw[hdl]
      exact World.rangeAt_setCells_same _ _ _ _ hthere
     obtain⟨g1,g2⟩:=Cx.oB hi (w':=c.w.setCells b (o+off*ei.size+len*ei.size) (cellsOf vs)) hb' rfl (B':= .cells (g+1) ei.size (vals.drop off++ys)) (some (b,o+off*ei.size))
      ⟨g+1,_,rfl,by omega,fun e=>by omega,fun b' o' h=> .inr ⟨o,by cases h;exact h6⟩⟩
      (fun k' hk' hno=>di b _ _ _ k' (fun e=>hno o (by rw[h6,e])))
      (by rw[gX];exact Nat.le_refl _) (cJ ..).1 (cJ ..).2.1 (cJ ..).2.2 (jC b _ _ _)
      (fun hg=> .inr ⟨b,o+off*ei.size,cs2,Ty,fr,us.drop off++vs,by simp,hc1,by unfold gn;rw[hc2];exact h12,((h13.drop off).append hv).grow hg,fun q hq=>by
       rcases List.mem_append.1 hq with hq|hq
       ·exact h14 q (List.mem_of_mem_drop hq)
       ·exact hu q hq,hw⟩)
     refine⟨_,c.Nu id (.cells (g+1) ei.size (vals.drop off++ys)) (some (b,o+off*ei.size)) _,_,hk,g2,?_,g1,hrun⟩
     refine pw c hb' _ _ _ _ (by rw[List.length_append,hdlen];exact Nat.le_refl _) _ _ hroom hcapm (.inr ⟨b,o+off*ei.size,cs2,Ty,fr,rfl,rfl,hc1,?_⟩)
     rw[hc2,← h9,Nat.add_mul];omega
  ·
   have hold:∃ us,ax c (vals.drop off) us∧(∀ u∈us,u.cells.size=ei.size∧cq u)∧(Builtin.firstCells info.size len (.slice aa len cap)).run P c.w.drew= .ok (cellsOf us).toArray c.w.drew:=by
    by_cases hl0:len=0
    ·subst hl0
     have hd0:vals.drop off=[]:=List.eq_nil_of_length_eq_zero (by omega)
     rw[hd0]
     refine⟨[],ax.bQ,by simp,?_⟩
     cases aa with
     |none=>exact run_firstCells_none _ _ _ _ _
     |some aa=>exact run_firstCells_some _ _ _ _ _ _ [] (by simp) (by simp)
    ·rcases hcapd with hcapd|⟨b,o,cs,Ty,fr,h6,h7,h8,h9⟩
     ·omega
     ·rcases hi.dQ id _ hb' with⟨h10,_⟩|⟨b',o',cs',Ty',fr',us,h10,h11,h12,h13,h14,h15⟩
      ·rw[h6] at h10;cases h10
      ·rw[h6] at h10;cases h10
       subst h7
       have hus:us.length=vals.length:=h13.length
       have hr:=fm h15 (fun u h=>(h14 u h).1) off (by omega)
       refine⟨us.drop off,h13.drop off,fun u h=>h14 u (List.mem_of_mem_drop h),run_firstCells_some _ _ _ _ _ _ _ ?_ fun j v hj=>?_⟩
       ·rw[ba (fun u h=>(h14 u (List.mem_of_mem_drop h)).1),List.length_drop,hus,i2];congr 1;omega
       ·rw[Addr.add_mid];simpa using hr j v hj
   obtain⟨us,u1,u2,u3⟩:=hold
   have hrun:=run_append_grow_src (P:=P) c.w t tx ty e info z ht i1 i4 aa len cap (cellsOf us) u3 xv ys.length (cellsOf vs) (i2 ▸ hsrc) (by omega) (by omega)
    (growslice_fits (by omega) (by rw[i3];omega))
   have hcapn:=grownCap_ge c.w (len+ys.length) cap e
   have hcapn2:=grownCap_le_maxLen c.w (len+ys.length) cap e (by unfold maxLen;omega)
   generalize grownCap c.w (len+ys.length) cap e=ncap at hrun hcapn hcapn2
   have hul:(cellsOf us).length=len*ei.size:=by rw[ba (fun u h=>(u2 u h).1),u1.length,hdlen]
   let cs:=(cellsOf us++cellsOf vs).toArray++Builtin.zeroCells z.cells (ncap - (len+ys.length))
   have hcs:cs=(cellsOf us++cellsOf vs).toArray++Builtin.zeroCells z.cells (ncap - (len+ys.length)):=rfl
   rw[← hcs] at hrun
   have hnew:(c.w.drew.alloc (.cells cs e)).heap[c.w.heap.size]? =some (.cells cs e (0,0)):=heap_alloc_new c.w.drew _
   have holdb:∀ k',k'<c.w.heap.size→(c.w.drew.alloc (.cells cs e)).heap[k']? =c.w.heap[k']? :=fun k' hk'=>heap_alloc_old c.w.drew _ k' hk'
   obtain⟨g1,g2⟩:=Cx.oB hi (w':=c.w.drew.alloc (.cells cs e)) hb' rfl (B':= .cells (g+1) ei.size (vals.drop off++ys)) (some (c.w.heap.size,0))
    ⟨g+1,_,rfl,by omega,fun e=>by omega,fun b' o' h=> .inl (by cases h;exact Nat.le_refl _)⟩
    (fun k' hk' _=>holdb k' hk') (by simp) rfl rfl rfl
    (fun b cs' Ty fr hb=>⟨cs',fr,by rw[holdb b (Array.getElem?_eq_some_iff.1 hb).1];exact hb,rfl⟩)
    (fun hg=> .inr ⟨c.w.heap.size,0,cs,e,(0,0),us++vs,by simp,hnew,.inl rfl,(u1.append hv).grow hg,fun q hq=>by
     rcases List.mem_append.1 hq with hq|hq
     ·exact u2 q hq
     ·exact hu q hq,fun j v hv'=>by
      rw[jP hnew,Nat.zero_add,← Array.getElem?_toList,hcs,Array.toList_append,← bS]
      rw[List.getElem?_append_left (List.getElem?_eq_some_iff.1 hv').1]
      exact hv'⟩)
   refine⟨_,c.Nu id (.cells (g+1) ei.size (vals.drop off++ys)) (some (c.w.heap.size,0)) _,_,hk,g2,?_,g1,hrun⟩
   refine pw c hb' _ _ _ _ (by rw[List.length_append,hdlen];exact Nat.le_refl _) _ _ hcapn hcapn2 (.inr ⟨c.w.heap.size,0,cs,e,(0,0),rfl,rfl,hnew,?_⟩)
   rw[hcs,Array.size_append,iW i6,List.size_toArray,List.length_append,hvl,hul,← Nat.add_mul,← Nat.add_mul,Nat.zero_add]
   congr 1;omega
 |_=>exact h.elim
end
end
section
section
variable {P:Program} {G:Gl} {T:bX} {own:List Nat} {nt B:Nat} {c:Cx} {env:List (Nat×SV)} {a:Act} {ρ:Option Nat}
variable {o:Oper} {next:Act→World→Prop} {Q:Exit→Act→World→Prop} {k:SV→List av→Prop}
theorem dI {t:Nat} {e:Nat×TI} (hT:aI P T) (h:elemOf T t=some e):P.underlying t=some (.slice e.1)∧bT P e.1 e.2:=by
 unfold elemOf at h
 split at h
 ·rename_i q s b z hq
  split at h
  ·rename_i i hi
   cases h
   exact⟨(hT _ _ hq).1,hT _ _ hi⟩
  ·cases h
 ·cases h
theorem eL {t:Nat} {i:TI} (h:bT P t i):∃ info,P.info? t=some info∧info.size=i.size∧info.bytes=i.bytes:=by
 obtain⟨_,info,z,h1,h2,h3,_⟩:=h
 exact⟨info,h1,h2,h3⟩
theorem CA (c:Cx) (hi:aM c) (n:Nat):Grow c (c.add (.cells 0 n []) none c.w)∧aM (c.add (.cells 0 n []) none c.w)∧aB (c.add (.cells 0 n []) none c.w) (.sl c.H.length 0 0 0) (.slice none 0 0):=by
 obtain⟨g1,g2⟩:=Cx.fresh hi c.w.heap.size (Nat.le_refl _) 0 none (.inl rfl) (.cells 0 n []) (w':=c.w) (fun _ _=>rfl) (Nat.le_refl _) rfl rfl rfl (fun hg=> .inl ⟨by simp,rfl⟩)
 exact⟨g1,g2,eZ c n [] none c.w (Nat.le_refl _) (Nat.zero_le _) (.inl ⟨rfl,.inr (Nat.le_refl _)⟩)⟩
theorem wp_assign {x:Operand} (hi:Inv G nt B c env a) (ho:o.op= .assign x) (h:cH P G T own env c.H o.dst o.type (.assign x) k)
 (hk:∀ x c' u,k x c'.H→aM c'→aB c' x u→Grow c c'→next (a.put o.dst u) c'.w):o.wpIn (FR ρ) 0 P a c.w next Q:=by
 have hr:(execOp a.eval o).run P c.w= .ok (.value (a.eval x)) c.w:=by simp[execOp,ho]
 have hd:∀ c,o.op≠ .defer c:=by rw[ho];intro _ e;cases e
 simp only[cH] at h
 cases hin:rC o.dst own with
 |true=>
  obtain⟨e,_,v,hv,hk'⟩:=h.1 hin
  have hrep:=bR hi hv
  split at hk'
  ·simp only[aB] at hrep
   obtain⟨g1,g2,g3⟩:=CA c hi.heap e.2.size
   exact eQ hd hr (hk _ (c.add _ none c.w) _ hk' g2 (hrep ▸ g3) g1)
  ·exact wp_pure hi hk hd hrep hk' hr
 |false=>
  obtain⟨v,hv,hk'⟩:=h.2 hin
  exact wp_pure hi hk hd (bR hi hv) hk' hr
theorem AE {v:SV} {g:Bool} (h:NK v=some g):v= .bool g:=by cases v<;>simp_all [NK]
theorem kD {v:SV} {n:Int} (h:Hp v=some n):∃ i,v= .int i n:=by cases v<;>simp_all [Hp]
theorem MV {x y z:Operand} (hi:Inv G nt B c env a) (ho:o.op= .pick x y z) (h:cH P G T own env c.H o.dst o.type (.pick x y z) k)
 (hk:∀ x c' u,k x c'.H→aM c'→aB c' x u→Grow c c'→next (a.put o.dst u) c'.w):o.wpIn (FR ρ) 0 P a c.w next Q:=by
 have hd:∀ c,o.op≠ .defer c:=by rw[ho];intro _ e;cases e
 obtain⟨v,hv,g,hg,hb⟩:=h
 have hrep:=bR hi hv
 rw[AE hg] at hrep
 simp only[aB] at hrep
 cases g with
 |true=>
  rw[KY] at hb
  obtain⟨r,h1,h2⟩:=hb
  exact wp_pure hi hk hd (bR hi h1) h2 (by simp[execOp,ho,hrep,asBool])
 |false=>
  rw[Hr] at hb
  obtain⟨r,h1,h2⟩:=hb
  exact wp_pure hi hk hd (bR hi h1) h2 (by simp[execOp,ho,hrep,asBool])
theorem wp_move {x:Operand} (hi:Inv G nt B c env a) (ho:o.op= .move x) (h:cH P G T own env c.H o.dst o.type (.move x) k)
 (hk:∀ x c' u,k x c'.H→aM c'→aB c' x u→Grow c c'→next (a.put o.dst u) c'.w):o.wpIn (FR ρ) 0 P a c.w next Q:=by
 obtain⟨v,hv,hk'⟩:=h
 exact wp_pure hi hk (by rw[ho];intro _ e;cases e) (bR hi hv) hk' (by simp[execOp,ho])
theorem Eo {x:Operand} {j:Nat} (hi:Inv G nt B c env a) (ho:o.op= .extract x j) (h:cH P G T own env c.H o.dst o.type (.extract x j) k)
 (hk:∀ x c' u,k x c'.H→aM c'→aB c' x u→Grow c c'→next (a.put o.dst u) c'.w):o.wpIn (FR ρ) 0 P a c.w next Q:=by
 obtain⟨v,hv,hk'⟩:=h
 have hrep:=bR hi hv
 cases v with
 |tuple xs=>
  obtain⟨y,hy,hk'⟩:=hk'
  simp only[aB] at hrep
  obtain⟨vs,h1,h2⟩:=hrep
  obtain⟨u,h3,h4⟩:=h1.get hy
  exact wp_pure hi hk (by rw[ho];intro _ e;cases e) h4 hk' (by simp[execOp,ho,h2,Instr.extract,h3])
 |_=>exact hk'.elim
theorem CV {f:Fn} {xs ys:Array Operand} (hi:Inv G nt B c env a) (ho:o.op= .makeFunc f xs ys) (h:cH P G T own env c.H o.dst o.type (.makeFunc f xs ys) k)
 (hk:∀ x c' u,k x c'.H→aM c'→aB c' x u→Grow c c'→next (a.put o.dst u) c'.w):o.wpIn (FR ρ) 0 P a c.w next Q:=by
 obtain⟨p,h1,q,h2,h3⟩:=h
 refine wp_pure (u:= .func f (xs.map a.eval) (ys.map a.eval)) hi hk (by rw[ho];intro _ e;cases e) ?_ h3 (by simp[execOp,ho,Instr.makeFunc])
 simp only[aB]
 exact⟨_,_,yW hi h1,yW hi h2,by simp[← Array.toList_map]⟩
theorem CW {x:Operand} (hi:Inv G nt B c env a) (ho:o.op= .nilCheck x) (h:cH P G T own env c.H o.dst o.type (.nilCheck x) k)
 (hk:∀ x c' u,k x c'.H→aM c'→aB c' x u→Grow c c'→next (a.put o.dst u) c'.w):o.wpIn (FR ρ) 0 P a c.w next Q:=by
 obtain⟨v,hv,hn,hk'⟩:=h
 have hrep:=bR hi hv
 refine wp_pure hi hk (by rw[ho];intro _ e;cases e) hrep hk' ?_
 cases v with
 |gM y=>simp only[aB] at hrep;obtain⟨b,o',u,h1,_⟩:=hrep;simp[execOp,ho,h1]
 |ptr id g j off=>
  simp only[oM,Option.isSome_iff_exists] at hn
  obtain⟨⟨sz,vals⟩,hb⟩:=hn
  obtain⟨_,b,o',_,h1⟩:=hrep.oe (cr hb)
  simp[execOp,ho,h1]
 |fn f xs ys=>
  cases f with
  |func f=>simp only[aB] at hrep;obtain⟨us,vs,_,_,h1⟩:=hrep;simp[execOp,ho,h1]
  |_=>cases hn
 |_=>cases hn
theorem wA {t:Nat} {p:Option IntKind×TI} (hT:aI P T) (h:dJ T t=some p):∃ kt et,P.underlying t=some (.map kt et)∧bT P et p.2∧
 (match p.1 with
  |some k=>P.underlying kt=some (.int k)
  |none=>P.underlying kt=some .string):=by
 unfold dJ at h
 split at h
 ·rename_i kt et _ _ _ hq
  split at h
  ·rename_i j _ _ _ hk
   split at h
   ·rename_i i hi;cases h;exact⟨kt,et,(hT _ _ hq).1,hT _ _ hi,(hT _ _ hk).1⟩
   ·cases h
  ·rename_i hk
   split at h
   ·rename_i i hi;cases h;exact⟨kt,et,(hT _ _ hq).1,hT _ _ hi,(hT _ _ hk).1⟩
   ·cases h
  ·cases h
 ·cases h
theorem Ep {t:Nat} (hi:Inv G nt B c env a) (ho:o.op= .makeMap t none) (h:cH P G T own env c.H o.dst o.type (.makeMap t none) k)
 (hk:∀ x c' u,k x c'.H→aM c'→aB c' x u→Grow c c'→next (a.put o.dst u) c'.w):o.wpIn (FR ρ) 0 P a c.w next Q:=by
 obtain⟨p,_,h⟩:=h
 have hnew:(c.w.alloc (.map #[] 0)).heap[c.w.heap.size]? =some (.map #[] 0):=heap_alloc_new c.w _
 obtain⟨g1,g2⟩:=Cx.fresh hi.heap (w':=c.w.alloc (.map #[] 0)) c.w.heap.size (Nat.le_refl _) 0 (some (c.w.heap.size,0)) (.inr rfl) (.map p.1 [])
  (fun b hb=>heap_alloc_old c.w _ b hb) (by simp) rfl rfl rfl (fun hg=>⟨c.w.heap.size,#[],0,by simp,hnew,by simp[cg],by simp,by simp[tQ]⟩)
 refine eQ (u:= .map (some c.w.heap.size)) (w':=c.w.alloc (.map #[] 0)) (by rw[ho];intro _ e;cases e) (by simp[execOp,ho,Instr.makeMap]) (hk _ (c.add (.map p.1 []) (some (c.w.heap.size,0)) (c.w.alloc (.map #[] 0))) _ h g2 ?_ g1)
 simp[aB,Value.oneCell']
theorem pS {t f:Nat} {p:Nat×TI} (hT:aI P T) (h:ln T t f=some p):∃ fl fd,P.underlying t=some (.struct fl)∧fl[f]? =some fd∧fd.offset=p.1∧bT P fd.type p.2∧p.2.size≠0:=by
 unfold ln at h
 split at h
 ·rename_i fs _ _ _ _ hq
  split at h
  ·rename_i off ft hf
   split at h
   ·rename_i i hi
    split at h
    ·cases h
    ·rename_i hz
     cases h
     obtain⟨⟨fl,h1,h2⟩,_⟩:=(hT _ _ hq).1
     rw[← h2] at hf
     simp only[List.getElem?_map,Option.map_eq_some_iff,Prod.mk.injEq] at hf
     obtain⟨fd,h3,h4,h5⟩:=hf
     exact⟨fl,fd,h1,by simpa using h3,h4,h5 ▸ hT _ _ hi,hz⟩
   ·cases h
  ·cases h
 ·cases h
theorem qP {t:Nat} {i:TI} (hi:bT P t i) (hz:i.size≠0) {fd:Field} (ht:fd.type=t) (b o':Nat) (w:World):(fieldPlace ⟨b,o',none⟩ fd).run P w= .ok ⟨b,o'+fd.offset,none⟩ w:=by
 obtain⟨info,h1,h2,_⟩:=eL hi
 simp[fieldPlace,sizeOf,typeInfo,ht,h1,h2,hz,Addr.add_mid]
theorem Ah {t f:Nat} {x:Operand} (hT:aI P T) (hi:Inv G nt B c env a) (ho:o.op= .fieldAddr t x f) (h:cH P G T own env c.H o.dst o.type (.fieldAddr t x f) k)
 (hk:∀ x c' u,k x c'.H→aM c'→aB c' x u→Grow c c'→next (a.put o.dst u) c'.w):o.wpIn (FR ρ) 0 P a c.w next Q:=by
 obtain⟨p,h1,v,h2,h3,y,h4,h5⟩:=h
 obtain⟨fl,fd,u1,u2,u3,u4,u5⟩:=pS hT h1
 have hrep:=bR hi h2
 have hrun:∀ b o',a.eval x= .pointer (some ⟨b,o',none⟩)→(execOp a.eval o).run P c.w= .ok (.value (.pointer (some ⟨b,o'+p.1,none⟩))) c.w:=fun b o' he=>by
  have:=qP u4 u5 rfl b o' c.w
  simp[execOp,ho,Instr.fieldAt,run_underlying u1,u2,he,Instr.sureAddr,this,u3]
 have hd:∀ c,o.op≠ .defer c:=by rw[ho];intro _ e;cases e
 cases v with
 |gM z=>
  simp only[fI] at h4
  split at h4
  ·rename_i q hq
   cases h4
   simp only[aB] at hrep
   obtain⟨b,o',u,e1,e2,e3,e4,e5⟩:=hrep
   obtain⟨u',e6,e7,e8⟩:=rT e2 hq
   refine wp_pure hi hk hd ?_ h5 (hrun b o' e1)
   simp only[aB]
   exact⟨b,o'+p.1,u',rfl,e6,(e6.dS e7).1,fun j v hv=>by rw[Nat.add_assoc];exact e4 _ _ (e8 j v hv),e5⟩
  ·cases h4
 |ptr id g j off=>
  simp only[fI] at h4;cases h4
  simp only[oM,Option.isSome_iff_exists] at h3
  obtain⟨⟨sz,vals⟩,hb⟩:=h3
  have hb':=cr hb
  obtain⟨e0,b,o',e1,e2⟩:=hrep.oe hb'
  refine wp_pure hi hk hd ?_ h5 (hrun b _ e2)
  simp only[aB,hb']
  exact⟨rfl,.inr ⟨trivial,e0,b,o',e1,by rw[Nat.add_assoc _ off]⟩⟩
 |_=>simp[fI] at h4
theorem sI {t:Nat} {i:TI} (hi:bT P t i) {x:SV} {u:Value} (h:aB c x u) (hf:fits i x=true) {cs:Array Value} {off:Nat} (hr:∀ j v,u.cells.toList[j]? =some v→cs.toList[off+j]? =some v) (w:World):
 (part t cs off).run P w= .ok u w:=by
 obtain⟨info,i1,i2,_⟩:=eL hi
 obtain⟨f1,f2,f3,f4⟩:=h.dS hf
 by_cases ha:i.d.agg=true
 ·have e:=f3 ha
  have hag:(isAgg t).run P w= .ok true w:=by
   unfold isAgg
   cases hdd:i.d with
   |struct fs cmp=>have hd:=hi.1;rw[hdd] at hd;obtain⟨⟨fl,hu,_⟩,_⟩:=hd;rw[Sem.run_bind,run_underlying hu w];rfl
   |array n e=>have hd:=hi.1;rw[hdd] at hd;rw[Sem.run_bind,run_underlying hd w];rfl
   |_=>rw[hdd] at ha;cases ha
  have hex:cs.extract off (off+i.size)=u.cells:=by
   apply Array.ext'
   rw[Array.toList_extract,List.extract_eq_take_drop,Nat.add_sub_cancel_left]
   apply List.ext_getElem?
   intro j
   rw[List.getElem?_take]
   by_cases hj:j<i.size
   ·rw[if_pos hj,List.getElem?_drop]
    have hjl:j<u.cells.toList.length:=by rw[Array.length_toList];omega
    rw[hr j _ (List.getElem?_eq_getElem hjl),List.getElem?_eq_getElem hjl]
   ·rw[if_neg hj,List.getElem?_eq_none (by rw[Array.length_toList];omega)]
  simp[part,hag,sizeOf,typeInfo,i1,i2,hex,← e]
 ·have ha':i.d.agg=false:=by simpa using ha
  obtain⟨hone,hs1⟩:=f4 ha'
  have hag:(isAgg t).run P w= .ok false w:=by
   unfold isAgg
   have hgo:∀ d,P.underlying t=some d→d.isRow=false→(underlying t >>= fun d=>(match d with| .struct _| .array _ _=>pure true|_=>pure false:Sem Bool)).run P w= .ok false w:=fun d hu hrow=>by
    rw[Sem.run_bind,run_underlying hu w]
    cases d<;>first|rfl|cases hrow
   cases hdd:i.d with
   |struct fs cmp=>rw[hdd] at ha';cases ha'
   |array n e=>rw[hdd] at ha';cases ha'
   |func=>have hd:=hi.1;rw[hdd] at hd;obtain⟨p,q,r,hu⟩:=hd;exact hgo _ hu rfl
   |oI=>have hd:=hi.1;rw[hdd] at hd;obtain⟨m,hu⟩:=hd;exact hgo _ hu rfl
   |_=>have hd:=hi.1;rw[hdd] at hd;exact hgo _ hd rfl
  have hc:=hr 0 u (by rw[eJ hone];rfl)
  simp[part,hag,show cs[off]? =some u from by simpa using hc]
theorem KE {t f:Nat} {x:Operand} (hT:aI P T) (hi:Inv G nt B c env a) (ho:o.op= .field t x f) (h:cH P G T own env c.H o.dst o.type (.field t x f) k)
 (hk:∀ x c' u,k x c'.H→aM c'→aB c' x u→Grow c c'→next (a.put o.dst u) c'.w):o.wpIn (FR ρ) 0 P a c.w next Q:=by
 obtain⟨p,h1,v,h2,hag,y,h4,h5⟩:=h
 obtain⟨fl,fd,u1,u2,u3,u4,u5⟩:=pS hT h1
 have hrep:=bR hi h2
 obtain⟨u',e6,e7,e8⟩:=rT hrep h4
 refine wp_pure hi hk (by rw[ho];intro _ e;cases e) e6 h5 ?_
 have hagg:∃ cs,a.eval x= .agg cs:=by
  cases v with
  |agg fs=>simp only[aB] at hrep;obtain⟨vs,_,_,e⟩:=hrep;exact⟨_,e⟩
  |_=>cases hag
 obtain⟨cs,he⟩:=hagg
 have:=sI u4 e6 e7 (cs:=cs) (off:=p.1) (by rw[he] at e8;exact e8) c.w
 simp[execOp,ho,Instr.field,run_underlying u1,u2,he,asAgg,u3,this]
theorem C7 {t:Nat} {p:Nat×TI} (hT:aI P T) (h:AD T t=some p):∃ e,P.underlying t=some (.array p.1 e)∧bT P e p.2:=by
 unfold AD at h
 split at h
 ·rename_i n e _ _ _ hq
  split at h
  ·rename_i i hi;cases h;exact⟨e,(hT _ _ hq).1,hT _ _ hi⟩
  ·cases h
 ·cases h
theorem Ai {t:Nat} {x y:Operand} (hT:aI P T) (hi:Inv G nt B c env a) (ho:o.op= .indexAddr t x y) (h:cH P G T own env c.H o.dst o.type (.indexAddr t x y) k)
 (hk:∀ x c' u,k x c'.H→aM c'→aB c' x u→Grow c c'→next (a.put o.dst u) c'.w):o.wpIn (FR ρ) 0 P a c.w next Q:=by
 obtain⟨s,h2,iv,h3,n,h4,h⟩:=h
 by_cases hp:E2 s=true
 ·obtain⟨p,h1,⟨h5,h6⟩,y,h7,h8⟩:=h.1 hp
  obtain⟨e,ht,hei⟩:=C7 hT h1
  obtain⟨info,i1,i2,_⟩:=eL hei
  have hs:=bR hi h2
  obtain⟨ik,rfl⟩:=kD h4
  have hn:=bR hi h3
  simp only[aB] at hn
  have hd:∀ c,o.op≠ .defer c:=by rw[ho];intro _ e;cases e
  have hrun:∀ b o',a.eval x= .pointer (some ⟨b,o',none⟩)→(execOp a.eval o).run P c.w= .ok (.value (.pointer (some ⟨b,o'+n.toNat*p.2.size,none⟩))) c.w:=fun b o' he=>by
   simp[execOp,ho,Instr.indexAt,he,hn.1,asIntOf,run_underlying ht,Instr.sureAddr,sizeOf,typeInfo,i1,i2,h5,Addr.add_mid]
  cases s with
  |gM z=>
   simp only[fI] at h7
   split at h7
   ·rename_i q hq
    cases h7
    simp only[aB] at hs
    obtain⟨b,o',u,e1,e2,e3,e4,e5⟩:=hs
    obtain⟨u',e6,e7,e8⟩:=rT e2 hq
    refine wp_pure hi hk hd ?_ h8 (hrun b o' e1)
    simp only[aB]
    exact⟨b,o'+n.toNat*p.2.size,u',rfl,e6,(e6.dS e7).1,fun j v hv=>by rw[Nat.add_assoc];exact e4 _ _ (e8 j v hv),e5⟩
   ·cases h7
  |ptr id g j off=>
   simp only[fI] at h7;cases h7
   simp only[oM,Option.isSome_iff_exists] at h6
   obtain⟨⟨sz,vals⟩,hb⟩:=h6
   have hb':=cr hb
   obtain⟨e0,b,o',e1,e2⟩:=hs.oe hb'
   refine wp_pure hi hk hd ?_ h8 (hrun b _ e2)
   simp only[aB,hb']
   exact⟨rfl,.inr ⟨trivial,e0,b,o',e1,by rw[Nat.add_assoc _ off]⟩⟩
  |_=>cases hp
 obtain⟨e,h1,xs,h5,h6,z,h7,h8⟩:=h.2 (by simpa using hp)
 obtain⟨ht,hei⟩:=dI hT h1
 obtain⟨info,i1,i2,_⟩:=eL hei
 have hs:=bR hi h2
 obtain⟨ik,rfl⟩:=kD h4
 have hn:=bR hi h3
 simp only[aB] at hn
 have hlt:n.toNat<xs.length:=(List.getElem?_eq_some_iff.1 h7).1
 have hd:∀ c,o.op≠ .defer c:=by rw[ho];intro _ e;cases e
 have hrun:∀ aa cap,a.eval x= .slice (some aa) xs.length cap→(execOp a.eval o).run P c.w= .ok (.value (.pointer (some (aa.add (n.toNat*e.2.size))))) c.w:=fun aa cap hx=>by
  have hcond:0≤n∧n<(xs.length:Int):=⟨h6,by omega⟩
  simp[execOp,ho,Instr.indexAt,hx,hn.1,asIntOf,run_underlying ht,sizeOf,typeInfo,i1,i2,hcond]
 cases s with
 |list sz l=>
  obtain⟨hsz,hk'⟩:=h8
  simp only[dU,Option.some.injEq] at h5;subst h5
  simp only[aB] at hs
  obtain⟨aa,cap,e1,e2,e3,e4⟩:=hs
  rcases e4 with e4|⟨b,o',vs,e4,e5,e6,e7,e8⟩
  ·subst e4;simp at hlt
  ·subst e4
   obtain⟨u,g1,g2⟩:=e5.get h7
   refine wp_pure hi hk hd ?_ hk' (hrun _ _ e1)
   rw[Addr.add_mid]
   simp only[aB]
   subst hsz
   exact⟨b,_,u,rfl,g2,(e6 u (List.mem_of_getElem? g1)).2,iO e7 (fun u hu=>(e6 u hu).1) g1,e8⟩
 |sl id g off len=>
  obtain⟨⟨sz,vals⟩,hb,hsz,hk'⟩:=h8
  simp only at hsz;subst hsz
  have hb':=cr hb
  simp only[dU,hb,Option.some.injEq] at h5
  simp only[aB,hb'] at hs
  rcases hs.2 with hs|⟨_,e1,aa,cap,e2,e3,e4,e5⟩
  ·omega
  have hlen:xs.length=len:=by rw[← h5];simp;omega
  rcases e5 with e5|⟨b,o',cs,Ty,fr,e5,e6,e7,e8⟩
  ·exact absurd e5.1 (Nat.ne_of_gt (Nat.lt_of_lt_of_le (Nat.lt_of_le_of_lt (Nat.zero_le _) (hlen ▸ hlt)) e3))
  ·subst e6
   refine wp_pure hi hk hd ?_ hk' (hrun _ _ (by rw[e2,hlen]))
   rw[Addr.add_mid]
   simp only[aB,hb']
   refine⟨rfl,.inr ⟨trivial,by omega,b,o',e5,?_⟩⟩
   rw[Nat.add_mul];simp[Nat.add_assoc]
 |_=>exact h8.elim
theorem KF {t:Nat} {x y:Operand} (hT:aI P T) (hi:Inv G nt B c env a) (ho:o.op= .index t x y) (h:cH P G T own env c.H o.dst o.type (.index t x y) k)
 (hk:∀ x c' u,k x c'.H→aM c'→aB c' x u→Grow c c'→next (a.put o.dst u) c'.w):o.wpIn (FR ρ) 0 P a c.w next Q:=by
 obtain⟨ti,h1,s,h2,iv,h3,n,h4,h5⟩:=h
 have hs:=bR hi h2
 obtain⟨ik,rfl⟩:=kD h4
 have hn:=bR hi h3
 simp only[aB] at hn
 have hti:=(hT _ _ h1).1
 split at h5
 ·rename_i bs hd0
  rw[hd0] at hti
  obtain⟨h6,b,h7,h8⟩:=h5
  simp only[aB] at hs
  refine wp_pure (x:= .int .u8 b.toNat) (u:= .int .u8 b.toNat) hi hk (by rw[ho];intro _ e;cases e) ?_ h8 ?_
  ·simp only[aB,IntKind.min,IntKind.max,IntKind.signed,IntKind.bits]
   have:=b.toNat_lt
   refine⟨trivial,?_,?_⟩<;>simp<;>omega
  ·have hu:P.underlying t=some .string:=hti
   have hget:(ByteArray.mk ⟨bs⟩)[n.toNat]? =some b:=by
    obtain⟨q1,q2⟩:=List.getElem?_eq_some_iff.1 h7
    rw[getElem?_pos (ByteArray.mk ⟨bs⟩) n.toNat (by show n.toNat<Array.size _;simpa using q1)]
    exact congrArg some q2
   simp[execOp,ho,Instr.index,hn.1,asIntOf,run_underlying hu,hs.1,h6,hget]
 ·rename_i m e fs hd0
  rw[hd0] at hti
  obtain⟨h6,ie,h7,y',h8,h9⟩:=h5
  obtain⟨u',e6,e7,e8⟩:=rT hs h8
  have hie:=hT _ _ h7
  obtain⟨info,i1,i2,_⟩:=eL hie
  refine wp_pure hi hk (by rw[ho];intro _ e;cases e) e6 h9 ?_
  have hu:P.underlying t=some (.array m e):=hti
  simp only[aB] at hs
  obtain⟨vs,_,_,he⟩:=hs
  have:=sI hie e6 e7 (cs:=vs.toArray) (off:=n.toNat*ie.size) (by rw[he] at e8;exact e8) c.w
  simp[execOp,ho,Instr.index,hn.1,asIntOf,run_underlying hu,he,h6,sizeOf,typeInfo,i1,i2,this]
 ·exact h5.elim
theorem vZ (k:IntKind) (n:Int):k.min≤k.wrap n∧k.wrap n≤k.max:=by
 cases k<;>simp[IntKind.wrap,IntKind.min,IntKind.max,IntKind.signed,IntKind.bits]<;>(try split)<;>omega
theorem MW {op:UnOp} {t:Nat} {x:Operand} (hi:Inv G nt B c env a) (ho:o.op= .unOp op t x) (h:cH P G T own env c.H o.dst o.type (.unOp op t x) k)
 (hk:∀ x c' u,k x c'.H→aM c'→aB c' x u→Grow c c'→next (a.put o.dst u) c'.w):o.wpIn (FR ρ) 0 P a c.w next Q:=by
 obtain⟨v,h1,h2⟩:=h
 have hv:=bR hi h1
 have hd:∀ c,o.op≠ .defer c:=by rw[ho];intro _ e;cases e
 unfold Ei at h2
 split at h2
 ·rename_i b
  simp only[aB] at hv
  exact wp_pure (u:= .bool (!b)) hi hk hd (by simp only[aB]) h2 (by simp[execOp,ho,hv,Op.unary])
 ·rename_i i n
  simp only[aB] at hv
  refine wp_pure (u:= .int i (i.wrap (0 - n))) hi hk hd ?_ h2 (by simp[execOp,ho,hv.1,Op.unary,Op.intArith])
  simp only[aB]
  exact⟨by simp,vZ _ _⟩
 ·exact h2.elim
end
end
end Go.Proofs.YtjdfoonhnmpkdaaGreatDoor
