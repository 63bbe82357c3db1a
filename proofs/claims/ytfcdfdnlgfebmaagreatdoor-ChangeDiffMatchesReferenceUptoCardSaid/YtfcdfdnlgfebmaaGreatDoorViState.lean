/- The abstract interpreter: how a state stands for a frame and a world. -/
import Derived.Test.YtfcdfdnlgfebmaaGreatDoorViRep
import Derived.Laws.OwnMore
import Derived.Laws.Slices
set_option linter.unusedVariables false
set_option linter.unusedSimpArgs false
set_option linter.unnecessarySimpa false
set_option linter.unusedSectionVars false
namespace Go.Vi
open Go.RowKit
def qaq (w:World) (F:Nat→Prop) (t:Ty) (x:t.den) (v:Value):Prop:=
 Rep w F t x v.cells.toList∧(t.agg=true→∃cs,v= .agg cs)∧(t.agg=false→∀cs,v≠ .agg cs)
def q7 (w:World) (F:Nat→Prop) (et:Nat) (e:Ty) (xs:List e.den) (v:Value) (bs:List Nat):Prop:=
 ∃cells,w.ownsRow 0 et e.size v xs.length cells∧bs=v.ownBlock.toList∧∀(i:Nat) (x:e.den),xs[i]? =some x→Rep w F e x ((cells.drop (i * e.size)).take e.size)
def qbg (w:World) (F:Nat→Prop):BC→List Value→List Nat→Prop
 | .val t x,cs,bs=>bs=[]∧Rep w F t x cs
 | .own et e xs,cs,bs=>∃v,cs=[v]∧q7 w F et e xs v bs
 | .pair a b,cs,bs=>∃c1 c2 b1 b2,cs=c1++c2∧bs=b1++b2∧qbg w F a c1 b1∧qbg w F b c2 b2
 | .hole n,cs,bs=>bs=[]∧cs.length=n
def qsT (w:World) (F:Nat→Prop):qod→Value→List Nat→Prop
 | .val t x,v,bs=>bs=[]∧qaq w F t x v
 | .own et e xs,v,bs=>q7 w F et e xs v bs
 | .gone,_,bs=>bs=[]
def qaW (w:World) (F:Nat→Prop):List qod→List Value→List Nat→Prop
 |[],vs,bs=>vs=[]∧bs=[]
 |c::cs,vs,bs=>∃v r b1 b2,vs=v::r∧bs=b1++b2∧qsT w F c v b1∧qaW w F cs r b2
def qdf (w:World) (F:Nat→Prop):(ts:List Ty)→denL ts→List Value→Prop
 |[],_,vs=>vs=[]
 |t::ts,x,vs=>∃v r,vs=v::r∧qaq w F t x.1 v∧qdf w F ts x.2 r
def qe4:List Value→Value
 |[v]=>v
 |vs=> .tuple vs.toArray
structure qcx (O:Nat→Prop) (w w':World):Prop where
 os:w'.os=w.os
 tape:w'.tape=w.tape
 output:w'.output=w.output
 size:w.heap.size≤w'.heap.size
 block:∀k,k<w.heap.size→¬O k→w'.heap[k]? =w.heap[k]?
theorem qcx.refl (O:Nat→Prop) (w:World):qcx O w w:=⟨rfl,rfl,rfl,Nat.le_refl _,fun _ _ _=>rfl⟩
theorem qcx.trans {O:Nat→Prop} {a b c:World} (h:qcx O a b) (k:qcx O b c):qcx O a c:=
 ⟨k.os.trans h.os,k.tape.trans h.tape,k.output.trans h.output,Nat.le_trans h.size k.size,fun i hi ho=>(k.block i (Nat.lt_of_lt_of_le hi h.size) ho).trans (h.block i hi ho)⟩
theorem qcx.mono {O O':Nat→Prop} {a b:World} (h:qcx O a b) (hO:∀k,O k→O' k):qcx O' a b:=⟨h.os,h.tape,h.output,h.size,fun k hk ho=>h.block k hk fun h'=>ho (hO k h')⟩
theorem qcx.alloc (O:Nat→Prop) (w:World) (o:Obj):qcx O w (w.alloc o):=⟨rfl,rfl,rfl,by simp,fun k hk _=>heap_alloc_old w o k hk⟩
theorem qcx.drew {O:Nat→Prop} {a b:World} (h:qcx O a b):qcx O a b.drew:=⟨h.os,h.tape,h.output,h.size,h.block⟩
theorem qcx.grown {w w':World} {row:Option Nat} (h:w.grownBy w' row):qcx (fun k=>some k=row) w w':=⟨h.os,h.tape,h.output,h.size,fun k hk ho=>h.block k hk ho⟩
def qni (P:Program) (w:World) (F:Nat→Prop) (ps rs:List Ty) (φ:denL ps→Option (denL rs)) (v:Value):Prop:=
 ∃(f:Nat) (caps:Array Value),v= .func (.func f) #[] caps∧(∀as w',(callFunc f as).run P w'= .ok (.enter f as) w')∧
  ∀(w':World) (F':Nat→Prop) (x:denL ps) (y:denL rs) (as:List Value),
   (∀b,F b→b<w.heap.size→F' b∧b<w'.heap.size∧w'.heap[b]? =w.heap[b]?)→qdf w' F' ps x as→φ x=some y→
   Calls P f (as.toArray++caps) w' fun e w''=>∃vs,e= .returned (qe4 vs)∧qdf w'' (fun b=>F' b∨w'.heap.size≤b) rs y vs∧qcx (fun _=>False) w' w''
structure Sit where
 P:Program
 ver:Nat→Nat
 tm:Nat→Value
 w:World
 F:Nat→Prop
 own:Nat→List Nat
 pn:Nat→Option Nat
def ptr (b off:Nat):Value:= .pointer (some ⟨b,off,none⟩)
def qfC (X:Sit) (s:Nat) (fo:Option Nat) (v:Value):Prop:=
 match fo with
 |none=>X.tm s=v
 |some o=>∃b,b∈X.own s∧X.tm s=ptr b 0∧X.w.cell? ⟨b,o,none⟩=some v
def quw (w:World) (b off:Nat) (u:Ty) (v:Value):Prop:=
 (u.agg=true∧∃cs:List Value,v= .agg cs.toArray∧cs.length=u.size∧qgJ w ⟨b,off,none⟩ cs)∨(u.agg=false∧w.cell? ⟨b,off,none⟩=some v)
def keyV:(k:Ty)→k.den→Value
 | .int kk,n=> .int kk n
 | .bool,b=> .bool b
 | .str,s=> .string ⟨(s:List UInt8).toArray⟩
 |_,_=>undef
def Ty.key:Ty→Bool
 | .int _=>true
 | .bool=>true
 | .str=>true
 |_=>false
def qjg (w:World) (F:Nat→Prop) (k t:Ty) (xs:List (k.den×t.den)) (v:Value) (bs:List Nat):Prop:=
 ∃(b:Nat) (es:Array MapEntry),v= .map (some b)∧bs=[b]∧w.heap[b]? =some (.map es es.size)∧es.size=xs.length∧k.key=true∧
  ∀(i:Nat) (e:MapEntry) (p:k.den×t.den),es[i]? =some e→xs[i]? =some p→e.key=keyV k p.1∧e.born=i∧qaq w F t p.2 e.val
theorem qjg.keep {w w':World} {F F':Nat→Prop} (hF:∀b,F b→b<w.heap.size→F' b∧b<w'.heap.size∧w'.heap[b]? =w.heap[b]?) {k t:Ty} {xs:List (k.den×t.den)} {v:Value} {bs:List Nat}
  (hb:∀b∈bs,b<w.heap.size→w'.heap[b]? =w.heap[b]?) (h:qjg w F k t xs v bs):qjg w' F' k t xs v bs:=by
 obtain ⟨b,es,h1,h2,h3,h4,h5,h6⟩:=h
 refine ⟨b,es,h1,h2,?_,h4,h5,fun i e p hi hp=> ?_⟩
 ·rw [hb b (by rw [h2]; simp) (Array.getElem?_eq_some_iff.1 h3).1]
  exact h3
 ·obtain ⟨g1,g2,g3⟩:=h6 i e p hi hp
  exact ⟨g1,g2,g3.1.keep hF,g3.2⟩
def qaF (X:Sit):AV→Value→List Nat→Prop
 | .undef,_,_=>True
 | .val t x,v,bs=>bs=[]∧qaq X.w X.F t x v
 | .own et e xs,v,bs=>q7 X.w X.F et e xs v bs
 | .agg c,v,bs=>∃cs:List Value,v= .agg cs.toArray∧qbg X.w X.F c cs bs
 | .box c,v,bs=>∃(b:Nat) (cs:List Value) (bs':List Nat) (te:Nat),v=ptr b 0∧X.w.heap[b]? =some (.cells cs.toArray te (0,0))∧qbg X.w X.F c cs bs'∧bs=b::bs'
 | .ref s v0,v,bs=>bs=[]∧(X.ver s=v0→X.tm s=v)
 | .bref s v0 off u,v,bs=>bs=[]∧(X.ver s=v0→∃b,b∈X.own s∧X.tm s=ptr b 0∧quw X.w b off u v)
 | .pbox s v0 off,v,bs=>bs=[]∧(X.ver s=v0→∃b,X.tm s=ptr b 0∧v=ptr b off)
 | .pip k off,v,bs=>bs=[]∧∃b,X.pn k=some b∧v=ptr b off
 | .prow s v0 fo sz i off,v,bs=>bs=[]∧(X.ver s=v0→∃g n cap,qfC X s fo (.slice (some ⟨g,0,none⟩) n cap)∧0≤i∧i<(n:Int)∧v=ptr g (i.toNat * sz+off))
 | .osl s v0 fo sz lo hi,v,bs=>bs=[]∧(X.ver s=v0→∃ad n cap,qfC X s fo (.slice ad n cap)∧0≤lo∧lo≤hi∧hi≤(n:Int)∧v=sliced ad lo.toNat hi.toNat cap sz)
 | .view t x off,v,bs=>bs=[]∧∃(a:Addr) (cs:List Value),v= .pointer (some (a.add off))∧X.F a.block∧a.block<X.w.heap.size∧qgJ X.w a cs∧Rep X.w X.F t x cs
 | .tup cs,v,bs=>∃vs:List Value,v= .tuple vs.toArray∧qaW X.w X.F cs vs bs
 | .grd s v0 want a,v,bs=>bs=[]∧(X.ver s=v0→(X.tm s= .bool want→qaF X a v [])∧(X.tm s≠ .bool want→v=undef))
 | .fn f caps,v,bs=>bs=[]∧∃vs:List Value,v= .func (.func f) #[] vs.toArray∧qaW X.w X.F caps vs []
 | .fnv ps rs φ,v,bs=>bs=[]∧qni X.P X.w X.F ps rs φ v
 | .nilr _ _,v,bs=>bs=[]∧v= .slice none 0 0
 | .mp k t xs,v,bs=>qjg X.w X.F k t xs v bs
 | .amb w m,v,bs=>bs=[]∧∃b,v= .bool b∧(b=w→m=true)
 | .parr s v0 off n e i o2,v,bs=>bs=[]∧0≤i∧i<(n:Int)∧(match v0 with
  |some v0=>X.ver s=v0→∃b,X.tm s=ptr b 0∧v=ptr b (off+i.toNat * e.size+o2)
  |none=>∃b,X.pn s=some b∧v=ptr b (off+i.toNat * e.size+o2))
def qc4 (T:qkG) (w:World) (F:Nat→Prop):Prop:=∀g r,T g=some r→F g∧g<w.heap.size∧∃(cs:List Value) (te:Nat) (fz:Nat×Nat),w.heap[g]? =some (.cells cs.toArray te fz)∧Rep w F r.1 r.2 cs
theorem qc4.none {w:World} {F:Nat→Prop} :qc4 (fun _=>none) w F:=fun _ _ h=>by cases h
structure Ctx where
 P:Program
 w0:World
 O:Nat→Prop
 G:Nat→Prop
 pn:Nat→Option Nat
 T:qkG
 hT:qc4 T w0 fun b=>G b∧¬O b
class Tabbed (E:Env) (C:Ctx):Prop where
 eq:E.tabs=C.T
def Ctx.base (C:Ctx) (b:Nat):Prop:=C.G b∨C.O b∨C.w0.heap.size≤b
def Ctx.free (C:Ctx) (w:World) (own:Nat→List Nat) (b:Nat):Prop:=C.base b∧b<w.heap.size∧∀s,b∉own s
structure qag (C:Ctx) (σ:St) (tm:Array Value) (w:World) (own:Nat→List Nat):Prop where
 size:tm.size=σ.length
 kept:qcx C.O C.w0 w
 mine:∀s b,b∈own s→(C.O b∨C.w0.heap.size≤b)∧b<w.heap.size
 nodup:∀s,(own s).Nodup
 apart:∀s s' b,b∈own s→b∈own s'→s=s'
 outside:∀s,σ.length≤s→own s=[]
 rep:∀s,s<σ.length→qaF { P:=C.P,ver:=fun s=>(qt σ s).1,tm:=fun s=>tm.getD s undef,w,F:=C.free w own,own,pn:=C.pn } (qt σ s).2 (tm.getD s undef) (own s)
 wf:∀s,∀m∈(qt σ s).2.mentions,m.2≤(qt σ m.1).1
theorem qc4.keep {T:qkG} {w w':World} {F F':Nat→Prop} (hF:∀b,F b→b<w.heap.size→F' b∧b<w'.heap.size∧w'.heap[b]? =w.heap[b]?) (h:qc4 T w F):qc4 T w' F':=fun g r hr=>by
 obtain ⟨h1,h2,cs,te,fz,h3,h4⟩:=h g r hr
 obtain ⟨g1,g2,g3⟩:=hF g h1 h2
 exact ⟨g1,g2,cs,te,fz,by rw [g3]; exact h3,h4.keep hF⟩
theorem qqX {T:qkG} {w:World} {F:Nat→Prop} (h:qc4 T w F) {g:Nat} {r:(t:Ty)×t.den} (hr:T g=some r):F g∧g<w.heap.size∧∃cs:List Value,qgJ w ⟨g,0,none⟩ cs∧Rep w F r.1 r.2 cs:=by
 obtain ⟨h1,h2,cs,te,fz,h3,h4⟩:=h g r hr
 refine ⟨h1,h2,cs,fun j u hj=> ?_,h4⟩
 have:(⟨g,0,none⟩:Addr).add j=⟨g,j,none⟩:=by simp [Addr.add]; exact fun h=>h.symm
 rw [this]
 simp [World.cell?,h3]
 simpa using hj
theorem qag.tabs {C:Ctx} {σ:St} {tm:Array Value} {w:World} {own:Nat→List Nat} (h:qag C σ tm w own):qc4 C.T w (C.free w own):=
 C.hT.keep fun b hb hlt=>⟨⟨.inl hb.1,Nat.lt_of_lt_of_le hlt h.kept.size,fun s hs=>by
  rcases (h.mine s b hs).1 with ho|ho
  ·exact hb.2 ho
  ·omega⟩,Nat.lt_of_lt_of_le hlt h.kept.size,h.kept.block b hlt hb.2⟩
theorem qag.tabsE {C:Ctx} {E:Env} [tb:Tabbed E C] {σ:St} {tm:Array Value} {w:World} {own:Nat→List Nat} (h:qag C σ tm w own):qc4 E.tabs w (C.free w own):=by
 rw [tb.eq]; exact h.tabs
theorem qaq.keep {w w':World} {F F':Nat→Prop} (hF:∀b,F b→b<w.heap.size→F' b∧b<w'.heap.size∧w'.heap[b]? =w.heap[b]?) {t:Ty} {x:t.den} {v:Value} (h:qaq w F t x v):qaq w' F' t x v:=
 ⟨h.1.keep hF,h.2⟩
theorem q7.keep {w w':World} {F F':Nat→Prop} (hF:∀b,F b→b<w.heap.size→F' b∧b<w'.heap.size∧w'.heap[b]? =w.heap[b]?) {et:Nat} {e:Ty} {xs:List e.den} {v:Value} {bs:List Nat}
  (hb:∀b∈bs,b<w.heap.size→w'.heap[b]? =w.heap[b]?) (h:q7 w F et e xs v bs):q7 w' F' et e xs v bs:=by
 obtain ⟨cells,ho,hbs,hx⟩:=h
 refine ⟨cells,⟨ho.1,?_⟩,hbs,fun i x hi=>(hx i x hi).keep hF⟩
 rcases ho.2 with h|⟨g,cap,cur,rfl,h1,h2,h3⟩
 ·exact .inl h
 ·refine .inr ⟨g,cap,cur,rfl,h1,?_,h3⟩
  rw [hb g (by rw [hbs]; simp [Value.ownBlock]) (Array.getElem?_eq_some_iff.1 h2).1]
  exact h2
theorem q7.nil_ (w:World) (F:Nat→Prop) (et:Nat) (e:Ty):q7 w F et e [] (.slice none 0 0) []:=
 ⟨[],World.ownsRow_nil _ _ _ _,rfl,fun i x hi=>by cases hi⟩
theorem qbg.keep {w w':World} {F F':Nat→Prop} (hF:∀b,F b→b<w.heap.size→F' b∧b<w'.heap.size∧w'.heap[b]? =w.heap[b]?): {c:BC} → {cs:List Value} → {bs:List Nat} →
  (hb:∀b∈bs,b<w.heap.size→w'.heap[b]? =w.heap[b]?)→qbg w F c cs bs→qbg w' F' c cs bs
 | .val _ _,_,_,_,h=>⟨h.1,h.2.keep hF⟩
 | .own _ _ _,_,_,hb,⟨v,h1,h2⟩=>⟨v,h1,h2.keep hF hb⟩
 | .pair _ _,_,_,hb,⟨c1,c2,b1,b2,h1,h2,h3,h4⟩=>⟨c1,c2,b1,b2,h1,h2,h3.keep hF (fun b hm=>hb b (by rw [h2]; exact List.mem_append_left _ hm)),h4.keep hF (fun b hm=>hb b (by rw [h2]; exact List.mem_append_right _ hm))⟩
 | .hole _,_,_,_,h=>h
theorem qaW.keep {w w':World} {F F':Nat→Prop} (hF:∀b,F b→b<w.heap.size→F' b∧b<w'.heap.size∧w'.heap[b]? =w.heap[b]?): {c:List qod} → {cs:List Value} → {bs:List Nat} →
  (hb:∀b∈bs,b<w.heap.size→w'.heap[b]? =w.heap[b]?)→qaW w F c cs bs→qaW w' F' c cs bs
 |[],_,_,_,h=>h
 |c::_,_,_,hb,⟨v,r,b1,b2,h1,h2,h3,h4⟩=>⟨v,r,b1,b2,h1,h2,(match c,h3 with
   | .val _ _,h3=>⟨h3.1,h3.2.keep hF⟩
   | .own _ _ _,h3=>q7.keep hF (fun b hm=>hb b (by rw [h2]; exact List.mem_append_left _ hm)) h3
   | .gone,h3=>h3),qaW.keep hF (fun b hm=>hb b (by rw [h2]; exact List.mem_append_right _ hm)) h4⟩
theorem qni.keep {P:Program} {w w':World} {F F':Nat→Prop} (hF:∀b,F b→b<w.heap.size→F' b∧b<w'.heap.size∧w'.heap[b]? =w.heap[b]?) {ps rs:List Ty} {φ:denL ps→Option (denL rs)} {v:Value}
  (h:qni P w F ps rs φ v):qni P w' F' ps rs φ v:=by
 obtain ⟨f,caps,hv,hc,h⟩:=h
 refine ⟨f,caps,hv,hc,fun w2 F2 x y as hk hr hy=>h w2 F2 x y as (fun b hb hs=> ?_) hr hy⟩
 obtain ⟨h1,h2,h3⟩:=hF b hb hs
 obtain ⟨g1,g2,g3⟩:=hk b h1 h2
 exact ⟨g1,g2,g3.trans h3⟩
theorem qaF.keep {X X':Sit} (hP:X'.P=X.P∧X'.pn=X.pn) (hF:∀b,X.F b→b<X.w.heap.size→X'.F b∧b<X'.w.heap.size∧X'.w.heap[b]? =X.w.heap[b]?):
  {a:AV} → {v:Value} → {bs:List Nat} →(hb:∀b∈bs,b<X.w.heap.size→X'.w.heap[b]? =X.w.heap[b]?)→
  (hm:∀m∈a.mentions,X'.ver m.1=m.2→X.ver m.1=m.2∧X'.tm m.1=X.tm m.1∧(∀b,b∈X.own m.1→X.tm m.1=ptr b 0→b∈X'.own m.1∧X'.w.heap[b]? =X.w.heap[b]?))→
  qaF X a v bs→qaF X' a v bs
 | .undef,_,_,_,_,_=>trivial
 | .val _ _,_,_,_,_,h=>⟨h.1,h.2.keep hF⟩
 | .own _ _ _,_,_,hb,_,h=>q7.keep hF hb h
 | .agg _,_,_,hb,_,⟨cs,h1,h2⟩=>⟨cs,h1,h2.keep hF hb⟩
 | .box _,_,_,hb,_,⟨b,cs,bs',te,h1,h2,h3,h4⟩=>⟨b,cs,bs',te,h1,by
   rw [hb b (by rw [h4]; exact List.mem_cons_self) (Array.getElem?_eq_some_iff.1 h2).1]; exact h2,h3.keep hF (fun b' hm=>hb b' (by rw [h4]; exact List.mem_cons_of_mem _ hm)),h4⟩
 | .ref s v0,_,_,_,hm,h=>⟨h.1,fun hv=>by
   obtain ⟨h1,h2,_⟩:=hm (s,v0) (by simp [AV.mentions]) hv
   rw [h2]; exact h.2 h1⟩
 | .bref s v0 off u,_,_,_,hm,h=>⟨h.1,fun hv=>by
   obtain ⟨h1,h2,h3⟩:=hm (s,v0) (by simp [AV.mentions]) hv
   obtain ⟨b,hb0,h4,h5⟩:=h.2 h1
   obtain ⟨hb1,hh⟩:=h3 b hb0 h4
   refine ⟨b,hb1,by rw [h2]; exact h4,?_⟩
   rcases h5 with ⟨h5,cs,h6,h7,h8⟩|⟨h5,h6⟩
   ·exact .inl ⟨h5,cs,h6,h7,fun j x hj=>by rw [←h8 j x hj]; exact World.cell?_of_block (by rw [qT]; exact hh)⟩
   ·exact .inr ⟨h5,by rw [←h6]; exact World.cell?_of_block hh⟩⟩
 | .pbox s v0 off,_,_,_,hm,h=>⟨h.1,fun hv=>by
   obtain ⟨h1,h2,_⟩:=hm (s,v0) (by simp [AV.mentions]) hv
   obtain ⟨b,h4,h5⟩:=h.2 h1
   exact ⟨b,by rw [h2]; exact h4,h5⟩⟩
 | .prow s v0 fo sz i off,_,_,_,hm,h=>⟨h.1,fun hv=>by
   obtain ⟨h1,h2,h3⟩:=hm (s,v0) (by simp [AV.mentions]) hv
   obtain ⟨g,n,cap,h4,h5⟩:=h.2 h1
   refine ⟨g,n,cap,?_,h5⟩
   cases fo with
   |none=>exact h2.trans h4
   |some o=>
    obtain ⟨b,hb0,h6,h7⟩:=h4
    obtain ⟨hb1,hh⟩:=h3 b hb0 h6
    exact ⟨b,hb1,h2.trans h6,by rw [←h7]; exact World.cell?_of_block hh⟩⟩
 | .pip _ _,_,_,_,_,⟨h0,b,h1,h2⟩=>⟨h0,b,by rw [hP.2]; exact h1,h2⟩
 | .osl s v0 fo sz lo hi,_,_,_,hm,h=>⟨h.1,fun hv=>by
   obtain ⟨h1,h2,h3⟩:=hm (s,v0) (by simp [AV.mentions]) hv
   obtain ⟨ad,n,cap,h4,h5⟩:=h.2 h1
   refine ⟨ad,n,cap,?_,h5⟩
   cases fo with
   |none=>exact h2.trans h4
   |some o=>
    obtain ⟨b,hb0,h6,h7⟩:=h4
    obtain ⟨hb1,hh⟩:=h3 b hb0 h6
    exact ⟨b,hb1,h2.trans h6,by rw [←h7]; exact World.cell?_of_block hh⟩⟩
 | .view _ _ _,_,_,_,_,⟨h0,a,cs,h1,h2,h3,h4,h5⟩=>by
   obtain ⟨g1,g2,g3⟩:=hF _ h2 h3
   exact ⟨h0,a,cs,h1,g1,g2,fun j x hj=>by rw [←h4 j x hj]; exact World.cell?_of_block (by rw [qT]; exact g3),h5.keep hF⟩
 | .tup _,_,_,hb,_,⟨vs,h1,h2⟩=>⟨vs,h1,h2.keep hF hb⟩
 | .grd s v0 want a,v,_,_,hm,h=>⟨h.1,fun hv=>by
   obtain ⟨h1,h2,_⟩:=hm (s,v0) (by simp [AV.mentions]) hv
   obtain ⟨g1,g2⟩:=h.2 h1
   refine ⟨fun ht=> ?_,fun ht=>g2 (by rw [←h2]; exact ht)⟩
   exact qaF.keep hP hF (fun b hb=>by cases hb) (fun m hmm=>hm m (by simp [AV.mentions,hmm])) (g1 (by rw [←h2]; exact ht))⟩
 | .fn _ _,_,_,_,_,⟨h0,vs,h1,h2⟩=>⟨h0,vs,h1,h2.keep hF (fun b hb=>by cases hb)⟩
 | .fnv _ _ _,_,_,_,_,h=>⟨h.1,by rw [hP.1]; exact h.2.keep hF⟩
 | .nilr _ _,_,_,_,_,h=>h
 | .mp _ _ _,_,_,hb,_,h=>qjg.keep hF hb h
 | .amb _ _,_,_,_,_,h=>h
 | .parr s (some v0) off n e i o2,_,_,_,hm,⟨h0,h1,h2,h3⟩=>⟨h0,h1,h2,fun hv=>by
   obtain ⟨g1,g2,_⟩:=hm (s,v0) (by simp [AV.mentions]) hv
   obtain ⟨b,h4,h5⟩:=h3 g1
   exact ⟨b,by rw [g2]; exact h4,h5⟩⟩
 | .parr s none off n e i o2,_,_,_,_,⟨h0,h1,h2,b,h4,h5⟩=>⟨h0,h1,h2,b,by rw [hP.2]; exact h4,h5⟩
def sit (C:Ctx) (σ:St) (tm:Array Value) (w:World) (own:Nat→List Nat):Sit:=
 { P:=C.P,ver:=fun s=>(qt σ s).1,tm:=fun s=>tm.getD s undef,w,F:=C.free w own,own,pn:=C.pn }
theorem qag.update {C:Ctx} {σ σ':St} {tm tm':Array Value} {w w':World} {own own':Nat→List Nat} (h:qag C σ tm w own) (D:Nat→Prop)
  (hlen:σ'.length=σ.length) (htm:tm'.size=tm.size)
  (hsame:∀s,¬D s→qt σ' s=qt σ s∧tm'.getD s undef=tm.getD s undef∧own' s=own s)
  (hver:∀s,D s→(qt σ s).1<(qt σ' s).1∨((qt σ' s).1=(qt σ s).1∧tm'.getD s undef=tm.getD s undef∧∀b,b∈own s→tm.getD s undef=ptr b 0→b∈own' s∧w'.heap[b]? =w.heap[b]?))
  (hk:qcx (fun b=>∃s,D s∧b∈own s) w w')
  (hD:∀s,D s→s<σ.length)
  (hown:∀s,D s→(∀b∈own' s,(w.heap.size≤b∧b<w'.heap.size)∨(∃s0,D s0∧b∈own s0))∧(own' s).Nodup)
  (hap:∀s s' b,D s→D s'→b∈own' s→b∈own' s'→s=s')
  (hrep:∀s,D s→qaF (sit C σ' tm' w' own') (qt σ' s).2 (tm'.getD s undef) (own' s))
  (hwf:∀s,D s→∀m∈(qt σ' s).2.mentions,m.2≤(qt σ' m.1).1):qag C σ' tm' w' own':=by
 have hN:C.w0.heap.size≤w.heap.size:=h.kept.size
 have keptFree:∀b,C.free w own b→C.free w' own' b∧w'.heap[b]? =w.heap[b]? :=fun b hb=>by
  have hlt:b<w.heap.size:=hb.2.1
  refine ⟨⟨hb.1,Nat.lt_of_lt_of_le hlt hk.size,fun s hs=> ?_⟩,hk.block b hlt fun ⟨s,_,hs⟩=>hb.2.2 s hs⟩
  by_cases hd:D s
  ·rcases (hown s hd).1 b hs with h1|⟨s0,_,h1⟩
   ·omega
   ·exact hb.2.2 s0 h1
  ·rw [(hsame s hd).2.2] at hs
   exact hb.2.2 s hs
 refine ⟨by rw [htm,hlen]; exact h.size,?_,?_,?_,?_,?_,?_,?_⟩
 ·refine ⟨hk.os.trans h.kept.os,hk.tape.trans h.kept.tape,hk.output.trans h.kept.output,Nat.le_trans h.kept.size hk.size,fun k hlt ho=> ?_⟩
  rw [←h.kept.block k hlt ho]
  refine hk.block k (by omega) fun ⟨s,_,hs⟩=> ?_
  rcases (h.mine s k hs).1 with h1|h1
  ·exact ho h1
  ·omega
 ·intro s b hb
  by_cases hd:D s
  ·rcases (hown s hd).1 b hb with ⟨h1,h2⟩|⟨s0,_,h1⟩
   ·exact ⟨.inr (by omega),h2⟩
   ·obtain ⟨h2,h3⟩:=h.mine s0 b h1
    exact ⟨h2,Nat.lt_of_lt_of_le h3 hk.size⟩
  ·rw [(hsame s hd).2.2] at hb
   obtain ⟨h2,h3⟩:=h.mine s b hb
   exact ⟨h2,Nat.lt_of_lt_of_le h3 hk.size⟩
 ·intro s
  by_cases hd:D s
  ·exact (hown s hd).2
  ·rw [(hsame s hd).2.2]; exact h.nodup s
 ·have mixed:∀s s' b,D s→¬D s'→b∈own' s→b∈own' s'→False:=fun s s' b hd hd' hb hb'=>by
   rw [(hsame s' hd').2.2] at hb'
   rcases (hown s hd).1 b hb with ⟨h1,_⟩|⟨s0,h0,h1⟩
   ·have:=(h.mine s' b hb').2; omega
   ·exact hd' (h.apart s0 s' b h1 hb' ▸ h0)
  intro s s' b hb hb'
  by_cases hd:D s <;> by_cases hd':D s'
  ·exact hap s s' b hd hd' hb hb'
  ·exact (mixed s s' b hd hd' hb hb').elim
  ·exact (mixed s' s b hd' hd hb' hb).elim
  ·rw [(hsame s hd).2.2] at hb
   rw [(hsame s' hd').2.2] at hb'
   exact h.apart s s' b hb hb'
 ·intro s hs
  have hd:¬D s:=fun hd=>by have:=hD s hd; omega
  rw [(hsame s hd).2.2]
  exact h.outside s (by omega)
 ·intro s hs
  by_cases hd:D s
  ·exact hrep s hd
  ·obtain ⟨h1,h2,h3⟩:=hsame s hd
   have hr:=h.rep s (by omega)
   rw [h1,h2,h3]
   refine qaF.keep (X:=sit C σ tm w own) (X':=sit C σ' tm' w' own') ⟨rfl,rfl⟩ ?_ ?_ ?_ hr
   ·intro b hb _
    obtain ⟨g1,g2⟩:=keptFree b hb
    exact ⟨g1,g1.2.1,g2⟩
   ·intro b hb hlt
    refine hk.block b hlt fun ⟨s0,h0,hs0⟩=>hd (h.apart s0 s b hs0 hb ▸ h0)
   ·intro m hm hv
    have hw:=h.wf s m hm
    have hv':(qt σ' m.1).1=m.2:=hv
    by_cases hdm:D m.1
    ·rcases hver m.1 hdm with h1|⟨h1,h2,h3⟩
     ·omega
     ·refine ⟨?_,h2,fun b hb hp=>h3 b hb hp⟩
      show (qt σ m.1).1=m.2
      rw [←h1]; exact hv'
    ·obtain ⟨e1,e2,e3⟩:=hsame m.1 hdm
     refine ⟨?_,e2,fun b hb _=>⟨?_,?_⟩⟩
     ·show (qt σ m.1).1=m.2
      rw [←e1]; exact hv'
     ·show b∈own' m.1
      rw [e3]; exact hb
     ·exact hk.block b (h.mine _ b hb).2 fun ⟨s0,h0,hs0⟩=>hdm (h.apart s0 m.1 b hs0 hb ▸ h0)
 ·intro s m hm
  by_cases hd:D s
  ·exact hwf s hd m hm
  ·rw [(hsame s hd).1] at hm
   have:=h.wf s m hm
   by_cases hdm:D m.1
   ·rcases hver m.1 hdm with h1|⟨h1,_,_⟩ <;> omega
   ·rw [(hsame m.1 hdm).1]; exact this
end Go.Vi
