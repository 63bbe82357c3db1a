import Derived.Test.YtghccmfcndnljaaGreatViXD
import Derived.Test.YtghccmfcndnljaaGreatViXA
import Derived.Carry
import Derived.OpenShut
import Derived.ChangeSame
import Derived.WideShapes
import Derived.Lib.Bytealg
import Derived.Lib.LaidTab
import Derived.Lib.ItoaNum
import Derived.Lib.ItoaLen
import Derived.Lib.AtoiAllCases
import Derived.Lib.ParseIntBTie
import Derived.Lib.AtoiErrMem
import Derived.Lib.AppendIntMem
import Derived.Laws.CopyRow
import Derived.Laws.IdiomCopy
import Derived.Lib.ReflectliteSwap
import Derived.Lib.ReflectliteSlice
set_option linter.unusedVariables false
set_option linter.unusedSimpArgs false
set_option linter.unnecessarySimpa false
set_option linter.unusedSectionVars false
open Array renaming getD_eq_getD_getElem? → zaA, getElem?_eq_some_iff → zav, length_toList → zaI
open Bool renaming and_eq_true → zad
open Int renaming toNat_natCast → zaJ
open List renaming all_eq_true → zaN, append_assoc → zaC, append_nil → zar, drop_eq_getElem_cons → zaO, drop_of_length_le → za1, drop_zero → zbe, eq_nil_of_length_eq_zero → zaV, flatten_cons → zaX, getD_eq_getElem?_getD → zaz, getElem?_append_left → zaP, getElem?_append_right → zaL, getElem?_drop → zan, getElem?_eq_getElem → zaa, getElem?_eq_none → zaD, getElem?_eq_some_iff → zao, getElem?_take → zal, getElem_mem → zau, getElem_of_mem → zaw, length_append → zag, length_cons → zba, length_drop → zap, length_take → zaf, map_append → za3, map_cons → zaZ, mem_append → zaj, mem_append_left → zac, mem_append_right → zab, mem_cons → zam, mem_cons_of_mem → zae, mem_cons_self → zai, mem_map_of_mem → zaR, mem_of_getElem? → zaU, nodup_append → zah, nodup_cons → zax, nodup_nil → zaH, take_append_drop → zaK, take_append_of_le_length → zaG
open Nat renaming add_mul → zbc, add_zero → zbf, le_refl → zay, lt_of_lt_of_le → zaE, mul_le_mul_right → zaq, zero_add → zaM, zero_le → za6
open Option renaming map_eq_some_iff → zaB, some → zbg
namespace Go.Vi
open Go.RowKit
theorem qsT (vs:List Value) (n:Nat) (j:Nat):(vs.toArray++Array.replicate n undef).getD j undef=vs.getD j undef:=by
 rw[zaA,zaz];by_cases h:j<vs.length
 ·rw[Array.getElem?_append_left (by simpa using h)];simp
 ·rw[Array.getElem?_append_right (by simpa using h),zaD (by omega),Array.getElem?_replicate];split<;>rfl
theorem qsC {P:Program}{E:Env}(hE:qa2 E P) {w w':World}{F:Nat→Prop}{fn:Func}{ps:List PM}{rs:List RM}{g i:List Nat}{σ:St}{a:Act}{own:Nat→List Nat}{y:RMs.den rs×PMs.ioDen ps}
  (hpre:∀b∈g++i,¬F b∧b<w.heap.size) (hn:(g++i).Nodup)
  {pn:Pn}{hT:qen E.tabs w fun b=>F b∧¬b∈g++i}(h:qac { P,w0:=w,O:=fun b=>b∈g++i,G:=F,pn,T:=E.tabs,hT } σ a.tmps w' own) {as:List Value}(hpin:qcw (fun s=>a.tmps.getD s undef) ps 0 as i) (he:qpd E fn ps rs σ=some y):
  ∃vs bs js,(results fn a.tmps).run P w'=Result.ok (qfD vs) w'∧(bs++js).Nodup∧(∀b∈bs++js,(b∈g∨w.heap.size≤b)∧b<w'.heap.size)∧qa3 w' (qgn w F g i (bs++js)) (qdd rs y.1) vs bs∧qc5 w' (qgn w F g i (bs++js)) ps y.2 as i js∧qbc (fun b=>b∈g++i) w w':=by
 haveI:Tabbed E { P,w0:=w,O:=fun b=>b∈g++i,G:=F,pn,T:=E.tabs,hT } :=⟨rfl⟩;unfold qpd at he;split at he;case h_2=>cases he
 rename_i y1 gone ow z cc hr hz hcc;split at he;case isFalse=>cases he
 rename_i hc;obtain⟨hca,he⟩:=qh5 he;injection he with he;subst he;simp only[zad]at hc;have hgn:=qdT hc.1.1.1;have hap:=qcS hc.1.1.2;have hrow:=qcS hc.1.2;have hio2:=qcS hc.2;obtain⟨vs0,bs,k1,k2,k3,k4,k5⟩:=qgK hE h rs hr ⟨cc,hcc,hca⟩;obtain⟨js,hjn,hios,hio,hj⟩:=qdL h ps 0 hz hpin;have hbi:∀b∈bs,b∉i:=fun b hb hi=>by
  obtain⟨s,hs,hbs⟩:=k3 b hb;obtain⟨s',h1,h2⟩:=hio b hi;have:=h.apart s s' b hbs h1;subst this;rcases h2 with⟨h2,c,h3⟩|⟨h3,_⟩
  ·exact k5 b hb s hs hbs c h3 h2
  ·exact hrow s (zac _ hs) h3
 have hbj:∀b∈bs,b∉js:=fun b hb hjb=>by
  obtain⟨s,hs,hbs⟩:=k3 b hb;obtain⟨s',_,h1,h0,_⟩:=hj b hjb;have:=h.apart s s' b hbs h1;subst this;exact hrow s (zac _ hs) h0
 have hji:∀b∈js,b∉i:=fun b hb hi=>by
  obtain⟨s,_,h1,_,⟨c,h2⟩,h3⟩:=hj b hb;obtain⟨s',h4,h5⟩:=hio b hi;have:=h.apart s s' b h1 h4;subst this;rcases h5 with⟨h5,_⟩|⟨_,h5⟩
  ·exact h3 h5
  ·exact h5 _ h2
 have hfree:∀b,Ctx.free { P,w0:=w,O:=fun b=>b∈g++i,G:=F,pn,T:=E.tabs,hT } w' own b→qgn w F g i (bs++js) b:=fun b hb=>by
  have hni:b∉i:=fun hi=>by
   obtain⟨s',h1,_⟩:=hio b hi;exact hb.2.2 s' h1
  refine⟨?_,fun hbb=>?_,hni⟩
  ·rcases hb.1 with hb|hb|hb
   ·exact .inl hb
   ·rcases zaj.1 hb with hb|hb
    ·exact .inr (.inl hb)
    ·exact absurd hb hni
   ·exact .inr (.inr hb)
  ·rcases zaj.1 hbb with hbb|hbb
   ·obtain⟨s,_,hbs⟩:=k3 b hbb;exact hb.2.2 s hbs
   ·obtain⟨s,_,hbs,_⟩:=hj b hbb;exact hb.2.2 s hbs
 have hmine:∀s b,b∈own s→b∉i→F b∨b∈g∨w.heap.size≤b:=fun s b hb hni=>by
  rcases(h.mine s b hb).1 with hb|hb
  ·rcases zaj.1 hb with hb|hb
   ·exact .inr (.inl hb)
   ·exact absurd hb hni
  ·exact .inr (.inr hb)
 refine⟨_,bs,js,qpJ k1,zah.2 ⟨k4 hgn,hjn,fun b hb b' hb' e=>hbj b hb (e▸hb')⟩,fun b hb=>?_,qa3.turn rs (.inr fun b hb _=>?_) k2,hios _ (fun b s c _ hps hc hb hnj=>?_) hfree,h.kept⟩
 ·have hni:b∉i:=(zaj.1 hb).elim (hbi b) (hji b);obtain⟨s,hbs⟩:∃s,b∈own s:=by
   rcases zaj.1 hb with hb|hb
   ·obtain⟨s,_,hbs⟩:=k3 b hb;exact⟨s,hbs⟩
   ·obtain⟨s,_,hbs,_⟩:=hj b hb;exact⟨s,hbs⟩
  obtain⟨h1,h2⟩:=h.mine s b hbs;refine⟨?_,h2⟩;rcases h1 with h1|h1
  ·rcases zaj.1 h1 with h1|h1
   ·exact .inl h1
   ·exact absurd h1 hni
  ·exact .inr h1
 ·rcases hb with hb|⟨s,hs,hbs,hne⟩
  ·exact hfree b hb
  ·have hni:b∉i:=fun hi=>by
    obtain⟨s',h1,h2⟩:=hio b hi;have:=h.apart s s' b hbs h1;subst this;rcases h2 with⟨h2,_⟩|⟨h2,_⟩
    ·exact hne h2
    ·exact hrow s (zab _ hs) h2
   refine⟨hmine s b hbs hni,fun hbb=>?_,hni⟩;rcases zaj.1 hbb with hbb|hbb
   ·obtain⟨s',hs',hbs'⟩:=k3 b hbb;have:=h.apart s s' b hbs hbs';subst this;exact hap s hs hs'
   ·obtain⟨s',_,hbs',hr',_⟩:=hj b hbb;have:=h.apart s s' b hbs hbs';subst this;exact hrow s (zab _ hs) hr'
 ·obtain⟨b0,cs,bs',te,b1,b2,b3,b4⟩:=h.box hc;have hb0:=hb;rw[b4]at hb;have hb:b∈bs':=hb;have hbs:b∈own s:=by rw[b4];exact zae _ hb
  have hni:b∉i:=fun hi=>by
   obtain⟨s',h1,h2⟩:=hio b hi;have:=h.apart s s' b hbs h1;subst this;rcases h2 with⟨h2,_⟩|⟨_,h2⟩
   ·rw[b1]at h2;have:=(qcU h2).1;subst this;have hnd:=h.nodup s;rw[b4]at hnd;exact(zax.1 hnd).1 hb
   ·exact h2 _ hc
  refine⟨hmine s b hbs hni,fun hbb=>?_,hni⟩;rcases zaj.1 hbb with hbb|hbb;case inr=>exact hnj hbb
  obtain⟨s',hs',hbs'⟩:=k3 b hbb;have:=h.apart s s' b hbs hbs';subst this;exact hio2 s hs' hps
def qoe:List Nat→List Nat→Nat→Option Nat
 |k::l,b::i,j=>if k=j then some b else qoe l i j
 |_,_,_=>none
theorem qrd {tm:Nat→Value}:(l i:List Nat)→l.map tm=i.map (fun b=>ptr b 0)→(∀k b,qoe l i k=some b→tm k=ptr b 0∧k∈l)∧∀k∈l,∃b,qoe l i k=some b
 |[],_,_=>⟨fun k b h=>(by cases h),fun k h=>(by cases h)⟩
 |k::l,[],h=>by simp at h
 |k::l,b::i,h=>by
  simp only[zaZ,List.cons.injEq]at h;obtain⟨h1,h2⟩:=qrd l i h.2;refine⟨fun j c hj=>?_,fun j hj=>?_⟩
  ·simp only[qoe]at hj;split at hj
   ·rename_i e;injection hj with hj;subst e;subst hj;exact⟨h.1,zai⟩
   ·obtain⟨q1,q2⟩:=h1 j c hj;exact⟨q1,zae _ q2⟩
  ·simp only[qoe];by_cases e:k=j
   ·exact⟨b,by rw[if_pos e]⟩
   ·rw[if_neg e];rcases zam.1 hj with hj|hj
    ·exact absurd hj.symm e
    ·exact h2 j hj
theorem qa2.pinned {E:Env}{P:Program}(h:qa2 E P) (anns:qsi) (ps:List PM) (rs:List RM):qa2 (E.at anns ps rs) P:=
 ⟨h.ty,fun t e he=>⟨(h.elem t e he).under,(h.elem t e he).info,(h.elem t e he).notInt⟩,h.dflt,h.size,h.arr,h.struct,h.str,h.int,h.bool,h.err,h.opt,h.map,h.off,fun t c hc=>by
  have hc:(E.zero t).map (BC.remask (qcn anns.frz (some 1000000008)))=some c:=hc;rw[zaB]at hc;obtain⟨c0,h0,rfl⟩:=hc;obtain⟨i,z,h1,h2,h3⟩:=h.zero t c0 h0;exact⟨i,z,h1,h2,fun w F=>(h3 w F).remask _⟩,h.eq,h.mixed,h.lst⟩
theorem qcN {P:Program}{f:Nat}{fn:Func}{c:Code}(hf:P.funcs[f]? =some fn) (hb:fn.body=some c) (hname:(fn.name== "runtime.NumGoroutine")=false) (as:Array Value) (w:World):(callFunc f as).run P w=.ok (.enter f as) w:=by
 have hn:¬fn.name= "runtime.NumGoroutine" :=by simpa using hname
 simp[callFunc,hf,hn,hb]
theorem qwp {P:Program}{E:Env}(hE:qa2 E P) (hF:qgd E P) {N:Nat}{anns:qsi}{f:Nat}{fn:Func}{c:Code}(hf:P.funcs[f]? =some fn) (hb:fn.body=some c) (hname:(fn.name== "runtime.NumGoroutine")=false) (D:qr)
  (hrun:∀x y,D.sem x=some y→runF E N anns fn D.ps D.rs x=some y):D.okT P E.tabs f:=by
 refine⟨fun as w=>qcN hf hb hname as w,fun w F x y as g i hT hp hpre hn hy=>?_⟩;have hT':qen E.tabs w fun b=>F b∧¬b∈g++i:=hT.keep fun b hb hlt=>⟨⟨hb,fun hm=>(hpre b hm).1 hb⟩,hlt,rfl⟩;have he:=hrun x y hy;unfold runF at he;rw[hb]at he;simp only at he;split at he;case isFalse=>cases he
 rename_i hcond;simp only[zad]at hcond;obtain⟨⟨c1,c2⟩,c3⟩:=hcond;have hlen:D.ps.length≤fn.ntmps:=of_decide_eq_true c2;have hpin0:=qc0 (fun s=>(as.toArray++Array.replicate (fn.ntmps-as.toArray.size) undef).getD s undef) D.ps 0 hp fun j _=>by
  rw[zaM];exact qsT as _ j
 obtain⟨ib,hib⟩:=hpin0.boxes D.ps 0;obtain⟨p1,p2⟩:=qrd (qct D.ps 0) ib hib;obtain⟨own,hst⟩:=quS (pn:=⟨qoe (qct D.ps 0) ib,as.headD undef⟩) (fn:=fn) hT' hlen hp (quR c3) hpre hn;have fin:∀(σ':St) (a':Act) (w':World) (own':Nat→List Nat),qbW (qbv D.ps 0) { tmps:=as.toArray++Array.replicate (fn.ntmps-as.toArray.size) undef,defers:=[] } a'→qac { P,w0:=w,O:=fun b=>b∈g++i,G:=F,pn:=⟨qoe (qct D.ps 0) ib,as.headD undef⟩,T:=E.tabs,hT:=hT' } σ' a'.tmps w' own'→qpd E fn D.ps D.rs σ'=some y→
   a'.defers=[]∧∃v,(results fn a'.tmps).run P w'=.ok v w'∧∃v',Ending.returned v=.returned v'∧D.Post w F as g i y v' w':=by
  intro σ' a' w' own' hk hs hfin;have hpin:qcw (fun s=>a'.tmps.getD s undef) D.ps 0 as i:=hpin0.congr D.ps 0 fun s hs=>hk.2 s hs;obtain⟨vs,bs,js,h1,h2,h3,h4,h5,h6⟩:=qsC hE hpre hn hs hpin hfin;exact⟨hk.1,qfD vs,h1,qfD vs,rfl,vs,bs,js,rfl,h2,h3,h4,h5,h6⟩
 haveI:Tabbed (E.at anns D.ps D.rs) { P,w0:=w,O:=fun b=>b∈g++i,G:=F,pn:=⟨qoe (qct D.ps 0) ib,as.headD undef⟩,T:=E.tabs,hT:=hT' } :=⟨rfl⟩;refine calls_of_wp hf hb (qv4 (E:=E.at anns D.ps D.rs) (C:= { P,w0:=w,O:=fun b=>b∈g++i,G:=F,pn:=⟨qoe (qct D.ps 0) ib,as.headD undef⟩,T:=E.tabs,hT:=hT' }) (pin:=qbv D.ps 0) (hE.pinned anns D.ps D.rs) ⟨fun f C h=>hF f C h,fun k hk=>p2 k hk,fun k b h=>qcs D.ps 0 k (p1 k b h).2⟩ c c1 he (fun k b h=>(p1 k b h).1) hst ⟨fun σ' a' w' own' hfr hk hs hfin=>fin σ' a' w' own' hk hs hfin,fun i σ' a' w' own' hfr hk hs hfin=>(by cases hfin),fun σ' a' w' own' hfr hk hs hfin=>fin σ' a' w' own' hk hs hfin⟩)
theorem qqJ {P:Program}{T:qpF}{f:Nat}{fn:Func}(hf:P.funcs[f]? =some fn) (hb:fn.body.isSome=true) (hname:(fn.name== "runtime.NumGoroutine")=false) {ps:List PM}{rs:List RM}:qr.okT P T f ⟨ps,rs,fun _=>none⟩:=by
 obtain⟨c,hc⟩:=Option.isSome_iff_exists.1 hb;exact⟨fun as w=>qcN hf hc hname as w,fun w F x y as g i _ _ _ _ hy=>by cases hy⟩
theorem qwa {P:Program}{E:Env}(hE:qa2 E P) (hF:qgd E P) {N:Nat}{anns:qsi}{f:Nat}{fn:Func}(hf:P.funcs[f]? =some fn) (hb:fn.body.isSome=true) (hname:(fn.name== "runtime.NumGoroutine")=false) {ps:List PM}{rs:List RM}{sem:PMs.den ps→Option (RMs.den rs×PMs.ioDen ps)}
  (hrun:∀x,runF E N anns fn ps rs x=sem x):qr.okT P E.tabs f ⟨ps,rs,sem⟩:=by
 obtain⟨c,hc⟩:=Option.isSome_iff_exists.1 hb;exact qwp hE hF (N:=N) (anns:=anns) hf hc hname ⟨ps,rs,sem⟩ fun x y h=>(hrun x).trans h
end Go.Vi
namespace Go.Vi
noncomputable section
structure TI where
 t:Nat
 ty:Ty
 et:Nat
 fs:List (Nat×Nat)
 z:qcv
 bytes:Nat
 eq:Bool
def qjl:List TI→Nat→Option TI
 |[],_=>none
 |x::r,t=>match decEq x.t t with
  |isTrue _=>some x
  |isFalse _=>qjl r t
def qcv.zero:qcv→BC
 |.val t=>.val t t.dflt
 |.own et e=>.own et e []
 |.pair a b=>.pair a.zero b.zero
 |.hole n=>.hole n
def qvT {α:Type}:List (Nat×α)→Nat→Option α
 |[],_=>none
 |(a,x)::r,k=>match decEq a k with
  |isTrue _=>some x
  |isFalse _=>qvT r k
def Env.tab (T:List TI) (fns:List (Nat×qr)):Env where
 ty t:=(qjl T t).map (·.ty)
 etid t:=((qjl T t).map (·.et)).getD 0
 off t f:=(qjl T t).bind fun x=>(x.fs[f]?).map (·.1)
 fty t f:=(((qjl T t).bind fun x=>(x.fs[f]?).map (·.2))).getD 0
 zero t:=(qjl T t).map (·.z.zero)
 bytes t:=((qjl T t).map (·.bytes)).getD 0
 eqok t:=((qjl T t).map (·.eq)).getD false
 fn:=qvT fns
 pins:=[]
 ownz:=false
 tabs:=fun _=>none
 rf:=[]
def Env.tabO (T:List TI) (fns:List (Nat×qr)):Env:= { Env.tab T fns with ownz:=true }
def Env.withLs (E:Env) (l:Nat×Nat×Nat):Env:= { E with lst:=some l }
end
end Go.Vi
namespace Go.Vi
def Ty.zeroOk:Ty→List Value→Bool
 |.int k,cs=>match cs with
  |[.int k' n]=>decide (k'=k)&&decide (n=0)
  |_=>false
 |.bool,cs=>match cs with
  |[.bool b]=> !b
  |_=>false
 |.str,cs=>match cs with
  |[.string s]=>s.data.toList.isEmpty
  |_=>false
 |.unit,cs=>cs.isEmpty
 |.err,cs=>match cs with
  |[.nilIface]=>true
  |_=>false
 |.opt _,cs=>match cs with
  |[.pointer none]=>true
  |_=>false
 |.map _ _,_=>false
 |.pair a b,cs=>a.zeroOk (cs.take a.size)&&b.zeroOk (cs.drop a.size)
 |.slice _,cs=>match cs with
  |[.slice none 0 0]=>true
  |_=>false
 |.arr n e,cs=>decide (cs.length=n*e.size)&&(List.range n).all fun i=>e.zeroOk ((cs.drop (i*e.size)).take e.size)
def qcv.zeroOk:qcv→List Value→Bool
 |.val t,cs=>t.zeroOk cs
 |.own _ _,cs=>match cs with
  |[.slice none 0 0]=>true
  |_=>false
 |.pair a b,cs=>a.zeroOk (cs.take a.zero.size)&&b.zeroOk (cs.drop a.zero.size)
 |.hole n,cs=>decide (cs.length=n)
def qtw (P:Program):List Field→Ty→Nat→Bool
 |[],.unit,_=>true
 |f::fs,.pair a b,off=>decide (f.offset=off)&&(match P.info? f.type with
  |some i=>decide (i.size=a.size)
  |none=>false)&&qtw P fs b (off+a.size)
 |_,_,_=>false
def fsOk (P:Program):List Field→List (Nat×Nat)→Bool
 |_,[]=>true
 |f::fs,(off,ft)::r=>decide (f.offset=off)&&decide (f.type=ft)&&(match P.info? ft with
  |some i=>decide (i.size≠0)
  |none=>false)&&fsOk P fs r
 |[],_::_=>false
def qqW (P:Program) (T:List TI) (et:Nat) (e:Ty):Bool:=
 match P.info? et with
 |some i=>decide (i.size=e.size)&&(match i.zero with
  |some z=>e.zeroOk z.cells.toList&&decide (z.cells.size=e.size)&&(match z with
   |.agg _=>e.agg
   |_=>true)
  |none=>false)&&decide (i.bytes=((qjl T et).map (·.bytes)).getD 0)
 |none=>false
def qfj (P:Program) (T:List TI) (x:TI) (d:TypeDesc):Ty→Bool
 |.int k=>match d with
  |.int k'=>decide (k'=k)
  |_=>false
 |.bool=>match d with
  |.bool=>true
  |_=>false
 |.str=>match d with
  |.string=>true
  |_=>false
 |.slice e=>match d with
  |.slice et=>decide (et=x.et)&&qqW P T et e
  |_=>false
 |.arr n e=>match d with
  |.array m et=>decide (m=n)&&decide (et=x.et)&&(match P.info? et with
   |some i=>decide (i.size=e.size)
   |none=>false)
  |_=>false
 |.err=>match d with
  |.interface _=>true
  |_=>false
 |.opt _=>match d with
  |.pointer _=>true
  |_=>false
 |.map k v=>match d with
  |.map kn vn=>decide (vn=x.et)&&(match P.underlying kn with
   |some kd=>qhU k kd
   |none=>false)&&(match P.info? vn with
   |some i=>(match i.zero with
    |some z=>v.zeroOk z.cells.toList&&(match z with
     |.agg _=>v.agg
     |_=> !v.agg)
    |none=>false)
   |none=>false)
  |_=>false
 |.unit=>match d with
  |.struct fs=>qtw P fs.toList .unit 0&&fsOk P fs.toList x.fs
  |_=>false
 |.pair a b=>match d with
  |.struct fs=>qtw P fs.toList (.pair a b) 0&&fsOk P fs.toList x.fs
  |_=>false
def tiOk (P:Program) (T:List TI) (x:TI):Bool:=
 match P.info? x.t,P.underlying x.t with
 |some i,some d=>decide (i.size=x.ty.size)&&(match i.zero with
  |some z=>(if x.ty.struct then x.ty.zeroOk z.cells.toList else true)&&x.z.zeroOk z.cells.toList
  |none=>false)&&qfj P T x d x.ty&&(match d with
  |.struct _=>true
  |_=>x.fs.isEmpty)&&(!x.eq||qv9 P x.ty x.t)
 |_,_=>false
def quy (P:Program) (T:List TI):Bool:=P.follows .mixedOrders&&T.all (tiOk P T)
theorem qnF: {T:List TI}→{t:Nat}→{x:TI}→qjl T t=some x→x∈T∧x.t=t
 |y::r,t,x,h=>by
  simp only[qjl]at h;split at h
  ·injection h with h;subst h;exact⟨zai,by assumption⟩
  ·obtain⟨h1,h2⟩:=qnF h;exact⟨zae _ h1,h2⟩
theorem Ty.zeroOk_rep {w:World}{F:Nat→Prop}:(t:Ty)→{cs:List Value}→t.zeroOk cs=true→Rep w F t t.dflt cs
 |.int k,cs,h=>by
  simp only[Ty.zeroOk]at h;split at h
  ·simp only[zad,decide_eq_true_eq]at h;obtain⟨rfl,rfl⟩:=h;refine⟨rfl,?_⟩;rename_i k;cases k<;>exact⟨by decide,by decide⟩
  ·cases h
 |.bool,cs,h=>by
  simp only[Ty.zeroOk]at h;split at h
  ·simp at h;subst h;rfl
  ·cases h
 |.err,cs,h=>by
  simp only[Ty.zeroOk]at h;split at h
  ·exact⟨_,rfl,.inl ⟨rfl,rfl⟩⟩
  ·cases h
 |.opt _,cs,h=>by
  simp only[Ty.zeroOk]at h;split at h
  ·exact⟨_,rfl,.inl ⟨rfl,rfl⟩⟩
  ·cases h
 |.map _ _,cs,h=>by cases h
 |.str,cs,h=>by
  simp only[Ty.zeroOk]at h;split at h
  ·rename_i s;refine⟨?_,by simp[Ty.dflt]⟩;have h1:s.data.toList=[]:=by simpa using h
   have h2:s.data= #[]:=by
    apply Array.toList_inj.1;rw[h1]
   cases s;simp only at h2;subst h2;rfl
  ·cases h
 |.unit,cs,h=>by
  have:cs=[]:=by simpa[Ty.zeroOk]using h
  exact this
 |.pair a b,cs,h=>by
  simp only[Ty.zeroOk,zad]at h;exact⟨_,_,(zaK a.size cs).symm,a.zeroOk_rep h.1,b.zeroOk_rep h.2⟩
 |.slice e,cs,h=>by
  simp only[Ty.zeroOk]at h;split at h
  ·exact⟨_,rfl,.inl ⟨rfl,rfl⟩⟩
  ·cases h
 |.arr n e,cs,h=>by
  simp only[Ty.zeroOk,zad,decide_eq_true_eq,zaN,List.mem_range]at h;obtain⟨h1,h2⟩:=h;refine⟨by simp[Ty.dflt],(List.range n).map (fun i=>(cs.drop (i*e.size)).take e.size),by simp,?_,fun i x c hi hc=>?_⟩
  ·clear h2;induction n generalizing cs with
   |zero=>simp at h1;subst h1;rfl
   |succ n ih=>
    have:=ih (cs:=cs.drop e.size) (by rw[zap,h1,zbc];omega);rw[List.range_succ_eq_map,zaZ,zaX,List.map_map];rw[Nat.zero_mul,zbe];have e2:((fun i=>List.take e.size (List.drop (i*e.size) cs)) ∘ Nat.succ)=fun i=>List.take e.size (List.drop (i*e.size) (cs.drop e.size)):=by
     funext i;simp only[Function.comp,List.drop_drop];rw[Nat.succ_mul,Nat.add_comm]
    rw[e2,←this,zaK]
  ·have hx:x=e.dflt:=by
    simp only[Ty.dflt]at hi;rw[List.getElem?_replicate]at hi;split at hi
    ·injection hi with hi;exact hi.symm
    ·cases hi
   rw[List.getElem?_map]at hc;by_cases hin:i<n
   ·rw[List.getElem?_range hin]at hc;simp only[Option.map_some,zbg.injEq]at hc;rw[hx,←hc];exact e.zeroOk_rep (h2 i hin)
   ·rw[zaD (by simpa using hin)]at hc;cases hc
theorem qcv.zeroOk_rep {w:World}{F:Nat→Prop}:(b:qcv)→{cs:List Value}→b.zeroOk cs=true→qaD w F b.zero cs []
 |.val t,cs,h=>⟨rfl,t.zeroOk_rep h⟩
 |.own et e,cs,h=>by
  simp only[qcv.zeroOk]at h;split at h
  ·exact⟨_,rfl,q8.nil_ _ _ _ _⟩
  ·cases h
 |.pair a b,cs,h=>by
  simp only[qcv.zeroOk,zad]at h;exact⟨_,_,[],[],(zaK a.zero.size cs).symm,rfl,a.zeroOk_rep h.1,b.zeroOk_rep h.2⟩
 |.hole n,cs,h=>⟨rfl,by simpa[qcv.zeroOk]using h⟩
theorem qfM {P:Program}{w:World}{t:Nat}{i:TypeInfo}(h:P.info? t=some i):(sizeOf t).run P w=.ok i.size w:=by
 simp[sizeOf,typeInfo,h]
theorem qpg {P:Program}: {fs:List Field}→{T:Ty}→{off:Nat}→qtw P fs T off=true→Lay P fs T off
 |[],.unit,_,_=>trivial
 |f::fs,.pair a b,off,h=>by
  simp only[qtw,zad,decide_eq_true_eq]at h;obtain⟨⟨h1,h2⟩,h3⟩:=h;split at h2
  ·rename_i i hi;simp only[decide_eq_true_eq]at h2;exact⟨h1,fun w=>by rw[qfM hi,h2],qpg h3⟩
  ·cases h2
theorem qsw {P:Program}: {fs:List Field}→{l:List (Nat×Nat)}→{f:Nat}→{q:Nat×Nat}→fsOk P fs l=true→l[f]? =some q→∃fl,fs[f]? =some fl∧fl.offset=q.1∧fl.type=q.2∧∃i,P.info? fl.type=some i∧i.size≠0
 |fl::fs,(off,ft)::r,f,q,h,hq=>by
  simp only[fsOk,zad,decide_eq_true_eq]at h;obtain⟨⟨⟨h1,h2⟩,h3⟩,h4⟩:=h;cases f with
  |zero=>
   simp at hq;subst hq;refine⟨fl,rfl,h1,h2,?_⟩;subst h2;split at h3
   ·rename_i i hi;exact⟨i,hi,of_decide_eq_true h3⟩
   ·cases h3
  |succ f=>
   simp only[List.getElem?_cons_succ]at hq⊢
   exact qsw h4 hq
 |_,[],f,q,_,hq=>by simp at hq
 |[],_::_,_,_,h,_=>by cases h
theorem qlI {P:Program}{T:List TI}(h:quy P T=true) (fns:List (Nat×qr)):qa2 (Env.tab T fns) P:=by
 simp only[quy,zad]at h;have one:∀ {t:Nat}{x:TI},qjl T t=some x→x.t=t∧∃i d z,P.info? t=some i∧P.underlying t=some d∧i.zero=some z∧i.size=x.ty.size∧(x.ty.struct=true→x.ty.zeroOk z.cells.toList=true)∧x.z.zeroOk z.cells.toList=true∧qfj P T x d x.ty=true∧((∃fs,d=.struct fs)∨x.fs=[])∧(x.eq=true→EqB P t x.ty):=by
  intro t x hx;obtain⟨h1,h2⟩:=qnF hx;have:=zaN.1 h.2 x h1;unfold tiOk at this;split at this
  ·rename_i i d hi hd;simp only[zad,decide_eq_true_eq]at this;obtain⟨⟨⟨⟨g1,g2⟩,g3⟩,g4⟩,g5⟩:=this;split at g2
   ·rename_i z hz;simp only[zad]at g2;refine⟨h2,i,d,z,h2▸hi,h2▸hd,hz,g1,fun hs=>?_,g2.2,g3,?_⟩
    ·have:=g2.1;rw[if_pos hs]at this;exact this
    ·refine⟨?_,fun he=>?_⟩
     ·split at g4
      ·exact .inl ⟨_,rfl⟩
      ·exact .inr (by simpa using g4)
     ·rw[he]at g5;exact h2▸quP g5
   ·cases g2
  ·cases this
 have ent:∀ {t:Nat}{u:Ty},(Env.tab T fns).ty t=some u→∃x,qjl T t=some x∧x.ty=u:=by
  intro t u hu;simp only[Env.tab,zaB]at hu;exact hu
 have etid:∀ {t:Nat}{x:TI},qjl T t=some x→(Env.tab T fns).etid t=x.et:=by
  intro t x hx;simp[Env.tab,hx]
 refine⟨?_,?_,?_,?_,?_,?_,?_,?_,?_,?_,?_,?_,?_,?_,?_,h.1,fun _ _ _ h=>by cases h⟩
 ·intro t u hu;obtain⟨x,hx,rfl⟩:=ent hu;obtain⟨_,i,d,z,h1,h2,h3,h4,h5,h6,h7,h8,h9⟩:=one hx;refine⟨⟨i,h1,h4⟩,d,h2,?_⟩;cases hty:x.ty<;>rw[hty]at h7<;>simp only[qfj]at h7<;>split at h7<;>first|rfl|cases h7
 ·intro t e hu;obtain⟨x,hx,hty⟩:=ent hu;obtain⟨_,i,d,z,h1,h2,h3,h4,h5,h6,h7,h8,h9⟩:=one hx;rw[hty]at h7;simp only[qfj]at h7;split at h7
  ·rename_i et;simp only[zad,decide_eq_true_eq]at h7;obtain⟨rfl,h7⟩:=h7;unfold qqW at h7;split at h7
   ·rename_i ie hie;simp only[zad,decide_eq_true_eq]at h7;obtain⟨⟨k1,k2⟩,k3⟩:=h7;split at k2
    ·rename_i ze hze;simp only[zad,decide_eq_true_eq]at k2;refine⟨by rw[etid hx];exact h2,⟨ie,ze,by rw[etid hx];exact hie,k1,hze,k2.1.2,?_⟩,fun k hk=>by rw[h2]at hk;cases hk⟩;rw[etid hx];exact k3
    ·cases k2
   ·cases h7
  ·cases h7
 ·intro t e hu;obtain⟨x,hx,hty⟩:=ent hu;obtain⟨_,i,d,z,h1,h2,h3,h4,h5,h6,h7,h8,h9⟩:=one hx;rw[hty]at h7;simp only[qfj]at h7;split at h7
  ·rename_i et;simp only[zad,decide_eq_true_eq]at h7;obtain⟨rfl,h7⟩:=h7;unfold qqW at h7;split at h7
   ·rename_i ie hie;simp only[zad,decide_eq_true_eq]at h7;obtain⟨⟨k1,k2⟩,k3⟩:=h7;split at k2
    ·rename_i ze hze;simp only[zad,decide_eq_true_eq]at k2;refine⟨ie,ze,by rw[etid hx];exact hie,hze,fun ha cs hcs=>?_,fun w F=>e.zeroOk_rep k2.1.1⟩;have:=k2.2;rw[hcs]at this;simp only at this;rw[ha]at this;cases this
    ·cases k2
   ·cases h7
  ·cases h7
 ·intro t e hu;rcases hu with hu|⟨n,hu⟩
  ·obtain⟨x,hx,hty⟩:=ent hu;obtain⟨_,i,d,z,h1,h2,h3,h4,h5,h6,h7,h8,h9⟩:=one hx;rw[hty]at h7;simp only[qfj]at h7;split at h7
   ·rename_i et;simp only[zad,decide_eq_true_eq]at h7;obtain⟨rfl,h7⟩:=h7;unfold qqW at h7;split at h7
    ·rename_i ie hie;simp only[zad,decide_eq_true_eq]at h7;funext w;rw[etid hx,qfM hie,h7.1.1]
    ·cases h7
   ·cases h7
  ·obtain⟨x,hx,hty⟩:=ent hu;obtain⟨_,i,d,z,h1,h2,h3,h4,h5,h6,h7,h8,h9⟩:=one hx;rw[hty]at h7;simp only[qfj]at h7;split at h7
   ·rename_i m et;simp only[zad,decide_eq_true_eq]at h7;obtain⟨⟨rfl,rfl⟩,h7⟩:=h7;split at h7
    ·rename_i ie hie;simp only[decide_eq_true_eq]at h7;funext w;rw[etid hx,qfM hie,h7]
    ·cases h7
   ·cases h7
 ·intro t n e hu;obtain⟨x,hx,hty⟩:=ent hu;obtain⟨_,i,d,z,h1,h2,h3,h4,h5,h6,h7,h8,h9⟩:=one hx;rw[hty]at h7;simp only[qfj]at h7;split at h7
  ·rename_i m et;simp only[zad,decide_eq_true_eq]at h7;obtain⟨⟨rfl,rfl⟩,h7⟩:=h7;rw[etid hx];exact h2
  ·cases h7
 ·intro t u hu hs;obtain⟨x,hx,hty⟩:=ent hu;obtain⟨_,i,d,z,h1,h2,h3,h4,h5,h6,h7,h8,h9⟩:=one hx;rw[hty]at h7 h5;have h5:=h5 hs;cases u<;>simp only[Ty.struct]at hs<;>first|cases hs|skip
  all_goals
   simp only[qfj]at h7
   split at h7
   ·rename_i fs
    simp only[zad]at h7
    exact⟨fs,z,i,h2,h1,h3,fun w F=>Ty.zeroOk_rep _ h5,qpg h7.1⟩
   ·cases h7
 ·intro t hu;obtain⟨x,hx,hty⟩:=ent hu;obtain⟨_,i,d,z,h1,h2,h3,h4,h5,h6,h7,h8,h9⟩:=one hx;rw[hty]at h7;simp only[qfj]at h7;split at h7
  ·exact h2
  ·cases h7
 ·intro t k hu;obtain⟨x,hx,hty⟩:=ent hu;obtain⟨_,i,d,z,h1,h2,h3,h4,h5,h6,h7,h8,h9⟩:=one hx;rw[hty]at h7;simp only[qfj]at h7;split at h7
  ·simp only[decide_eq_true_eq]at h7;subst h7;exact h2
  ·cases h7
 ·intro t hu;obtain⟨x,hx,hty⟩:=ent hu;obtain⟨_,i,d,z,h1,h2,h3,h4,h5,h6,h7,h8,h9⟩:=one hx;rw[hty]at h7;simp only[qfj]at h7;split at h7
  ·exact h2
  ·cases h7
 ·intro t hu;obtain⟨x,hx,hty⟩:=ent hu;obtain⟨_,i,d,z,h1,h2,h3,h4,h5,h6,h7,h8,h9⟩:=one hx;rw[hty]at h7;simp only[qfj]at h7;split at h7
  ·exact⟨_,h2⟩
  ·cases h7
 ·intro t e hu;obtain⟨x,hx,hty⟩:=ent hu;obtain⟨_,i,d,z,h1,h2,h3,h4,h5,h6,h7,h8,h9⟩:=one hx;rw[hty]at h7;simp only[qfj]at h7;split at h7
  ·exact⟨_,h2⟩
  ·cases h7
 ·intro t k v hu;obtain⟨x,hx,hty⟩:=ent hu;obtain⟨_,i,d,z,h1,h2,h3,h4,h5,h6,h7,h8,h9⟩:=one hx;rw[hty]at h7;simp only[qfj]at h7;split at h7
  ·rename_i kn vn;simp only[zad]at h7;obtain⟨⟨k1,k2⟩,k3⟩:=h7;split at k2;case h_2=>cases k2
   rename_i kd hkd;split at k3;case h_2=>cases k3
   rename_i iv hiv;split at k3;case h_2=>cases k3
   rename_i zv hzv;simp only[zad]at k3;refine⟨kn,vn,kd,iv,zv,h2,hkd,k2,hiv,hzv,fun w F=>⟨v.zeroOk_rep k3.1,fun ha=>?_,fun ha cs he=>?_⟩⟩
   ·have k4:=k3.2;split at k4
    ·exact⟨_,rfl⟩
    ·rw[ha]at k4;cases k4
   ·have k4:=k3.2;rw[he]at k4;simp only at k4;rw[ha]at k4;cases k4
  ·cases h7
 ·intro t f n ho;simp only[Env.tab,Option.bind_eq_some_iff,zaB]at ho;obtain⟨x,hx,q,hq,rfl⟩:=ho;obtain⟨_,i,d,z,h1,h2,h3,h4,h5,h6,h7,h8,h9⟩:=one hx;rcases h8 with⟨fs,rfl⟩|h8
  ·have hfs:fsOk P fs.toList x.fs=true:=by
    cases hty:x.ty<;>rw[hty]at h7<;>simp only[qfj]at h7<;>first|(simp only[zad]at h7;exact h7.2)|cases h7
   obtain⟨fl,g1,g2,g3,g4⟩:=qsw hfs hq;refine⟨fs,fl,h2,by simpa using g1,g2,?_,g4⟩;simp[Env.tab,hx,hq,g3]
  ·rw[h8]at hq;simp at hq
 ·intro t c hc;simp only[Env.tab,zaB]at hc;obtain⟨x,hx,rfl⟩:=hc;obtain⟨_,i,d,z,h1,h2,h3,h4,h5,h6,h7,h8,h9⟩:=one hx;exact⟨i,z,h1,h3,fun w F=>x.z.zeroOk_rep h6⟩
 ·intro t u he hu;obtain⟨x,hx,rfl⟩:=ent hu;obtain⟨_,i,d,z,h1,h2,h3,h4,h5,h6,h7,h8,h9⟩:=one hx;exact h9 (by simpa[Env.tab,hx]using he)
theorem qsy {P:Program}{T:List TI}:qgd (Env.tab T []) P:=fun f C h=>by cases h
theorem qrM {P:Program}{T:List TI}{fns:List (Nat×qr)}{f:Nat}{C:qr}(h:C.ok P f) (hF:qgd (Env.tab T fns) P):qgd (Env.tab T ((f,C)::fns)) P:=fun f' C' h'=>by
 simp only[Env.tab,qvT]at h';split at h'
 ·rename_i e _;injection h' with h';subst h';subst e;exact h
 ·exact hF f' C' h'
theorem fnsOkO {P:Program}{T:List TI}{fns:List (Nat×qr)}(h:qgd (Env.tab T fns) P):qgd (Env.tabO T fns) P:=h
theorem qse {P:Program}{T:List TI}(h:quy P T=true) (fns:List (Nat×qr)):qa2 (Env.tabO T fns) P:=
 have h:=qlI h fns
 ⟨h.ty,fun t e he=>⟨(h.elem t e he).under,(h.elem t e he).info,(h.elem t e he).notInt⟩,h.dflt,h.size,h.arr,h.struct,h.str,h.int,h.bool,h.err,h.opt,h.map,h.off,h.zero,h.eq,h.mixed,fun _ _ _ h=>by cases h⟩
def qtR:TypeDesc→Bool
 |.struct _=>false
 |.array _ _=>false
 |_=>true
def qu9 (P:Program) (a b c:Nat):Bool:=match P.info? a,P.underlying a,P.info? b,P.underlying b,P.info? c,P.underlying c with
 |some ia,some (.struct fs),some ib,some db,some ic,some dc=>(((ia.size==2&&ib.size==1)&&(ic.size==1&&qtR db))&&qtR dc)&&(match fs[0]?,fs[1]? with
  |some f0,some f1=>(f0.offset==0&&f1.offset==1)&&(match P.info? f0.type,P.info? f1.type with
   |some i0,some i1=>i0.size !=0&&i1.size !=0
   |_,_=>false)
  |_,_=>false)
 |_,_,_,_,_,_=>false
theorem qvc {P:Program}{a b c:Nat}(h:qu9 P a b c=true):LsTy P a b c:=by
 unfold qu9 at h;split at h;case h_2=>cases h
 rename_i ia fs ib db ic dc h1 h2 h3 h4 h5 h6;simp only[zad,beq_iff_eq]at h;obtain⟨⟨⟨⟨g1,g2⟩,g3,g4⟩,g5⟩,h⟩:=h;split at h;case h_2=>cases h
 rename_i f0 f1 h7 h8;simp only[zad,beq_iff_eq]at h;obtain⟨⟨g6,g7⟩,h⟩:=h;split at h;case h_2=>cases h
 rename_i i0 i1 h9 h10;simp only[zad,bne_iff_ne]at h;have na:∀d:TypeDesc,qtR d=true→(match d with|.struct _=>true|.array _ _=>true|_=>false)=false:=fun d hd=>by
  cases d<;>first|rfl|(cases hd)
 exact⟨⟨⟨ia,h1,by rw[g1];rfl⟩,_,h2,rfl⟩,⟨⟨ib,h3,by rw[g2];rfl⟩,_,h4,na db g4⟩,⟨⟨ic,h5,by rw[g3];rfl⟩,_,h6,na dc g5⟩,fs,f0,f1,i0,i1,h2,h7,h8,g6,g7,h9,h.1,h10,h.2⟩
theorem qa2.withLs {E:Env}{P:Program}(h:qa2 E P) {a b c:Nat}(hl:qu9 P a b c=true):qa2 (E.withLs (a,b,c)) P:=
 ⟨h.ty,fun t e he=>⟨(h.elem t e he).under,(h.elem t e he).info,(h.elem t e he).notInt⟩,h.dflt,h.size,h.arr,h.struct,h.str,h.int,h.bool,h.err,h.opt,h.map,h.off,h.zero,h.eq,h.mixed,fun t0 t1 t2 he=>by
  have he:some (a,b,c)=some (t0,t1,t2):=he;injection he with he;injection he with e1 he;injection he with e2 e3;subst e1;subst e2;subst e3;exact qvc hl⟩
end Go.Vi
namespace Go.Vi
open Go.RowKit Go.WideShapes Go.ChangeShapes
def qnQ (P:Program) (a:Nat→Bool) (sa:Nat) (b:List Field→Nat→Bool):List Field→Nat→Bool
 |f::r,off=>decide (f.offset=off)&&(decide (P.cellsOf f.type=sa)&&(a f.type&&b r (off+sa)))
 |[],_=>false
def qkw (P:Program):Ty→(Nat→Bool)×(List Field→Nat→Bool)
 |.int k=>(fun t=>match P.underlying t with
  |some (.int k')=>decide (k'=k)
  |_=>false,fun _ _=>false)
 |.bool=>(fun t=>match P.underlying t with
  |some .bool=>true
  |_=>false,fun _ _=>false)
 |.str=>(fun t=>match P.underlying t with
  |some .string=>true
  |_=>false,fun _ _=>false)
 |.err=>(fun _=>false,fun _ _=>false)
 |.opt _=>(fun _=>false,fun _ _=>false)
 |.map _ _=>(fun _=>false,fun _ _=>false)
 |.unit=>(fun t=>match P.underlying t with
  |some (.struct fs)=>fs.toList.isEmpty&&decide (P.cellsOf t=0)
  |_=>false,fun fs _=>fs.isEmpty)
 |.pair a b=>(fun t=>match P.underlying t with
  |some (.struct fs)=>qnQ P (qkw P a).1 a.size (qkw P b).2 fs.toList 0&&decide (P.cellsOf t=a.size+b.size)
  |_=>false,qnQ P (qkw P a).1 a.size (qkw P b).2)
 |.slice e=>(fun t=>match P.underlying t with
  |some (.slice et)=>decide (P.cellsOf et=e.size)&&(decide (e.size≠0)&&(qkw P e).1 et)
  |_=>false,fun _ _=>false)
 |.arr n e=>(fun t=>match P.underlying t with
  |some (.array m et)=>decide (m=n)&&(decide (P.cellsOf et=e.size)&&(decide (P.cellsOf t=n*e.size)&&(qkw P e).1 et))
  |_=>false,fun _ _=>false)
def Ty.bulk:(t:Ty)→t.den→Nat
 |.int _,_=>1
 |.bool,_=>1
 |.str,s=>List.length (α:=UInt8) s+1
 |.unit,_=>1
 |.err,_=>1
 |.opt _,_=>1
 |.map _ _,_=>1
 |.pair a b,x=>a.bulk x.1+b.bulk x.2
 |.slice e,xs=>(List.map e.bulk xs).sum+1
 |.arr _ e,xs=>(List.map e.bulk xs).sum+1
def Ty.good:(t:Ty)→t.den→Prop
 |.int k,n=>k.has n
 |.bool,_=>True
 |.str,s=>List.length (α:=UInt8) s≤maxLen
 |.unit,_=>True
 |.err,_=>True
 |.opt e,x=>match x with
  |some y=>e.good y
  |none=>True
 |.map _ _,_=>True
 |.pair a b,x=>a.good x.1∧b.good x.2
 |.slice e,xs=>List.length (xs:List e.den)≤maxLen∧∀y∈(xs:List e.den),e.good y
 |.arr _ e,xs=>∀y∈(xs:List e.den),e.good y
theorem Rep.good {w:World}{F:Nat→Prop}: {t:Ty}→{x:t.den}→{cs:List Value}→Rep w F t x cs→t.good x
 |.int _,_,_,h=>h.2
 |.bool,_,_,_=>trivial
 |.str,_,_,h=>h.2
 |.unit,_,_,_=>trivial
 |.err,_,_,_=>trivial
 |.map _ _,_,_,_=>trivial
 |.opt e,x,_,⟨v,_,h⟩=>by
  rcases h with⟨rfl,_⟩|⟨y,a,cs,rfl,_,_,_,_,h⟩
  ·trivial
  ·exact h.good
 |.pair _ _,_,_,⟨_,_,_,h1,h2⟩=>⟨h1.good,h2.good⟩
 |.slice e,xs,_,⟨v,_,h⟩=>by
  refine⟨?_,?_⟩
  ·rcases h with⟨_,h⟩|⟨a,cap,_,h1,h2,_⟩
   ·have h:xs=[]:=h;subst h;exact za6 _
   ·exact Nat.le_trans h1 h2
  intro y hy;rcases h with⟨_,h⟩|⟨a,cap,_,_,_,hx⟩
  ·have h:xs=[]:=h;subst h;cases hy
  ·obtain⟨i,hi,rfl⟩:=zaw hy;obtain⟨_,_,cs,_,h4⟩:=hx i _ (zaa hi);exact h4.good
 |.arr n e,xs,_,⟨hl,css,hcl,hc,hx⟩=>by
  intro y hy;obtain⟨i,hi,rfl⟩:=zaw hy;exact(hx i _ _ (zaa hi) (zaa (by have hi:i<List.length xs:=hi;omega))).good
def qmL:(us:List Ty)→PMs.den (us.map .val)→Prop
 |[],_=>True
 |u::us,x=>u.good x.1∧qmL us x.2
theorem qaq.good {P:Program}{w:World}{F:Nat→Prop}:(us:List Ty)→{x:PMs.den (us.map .val)}→{vs:List Value}→{g i:List Nat}→qaq P w F (us.map .val) x vs g i→qmL us x
 |[],_,_,_,_,_=>trivial
 |_::us,_,_,_,_,⟨_,_,_,h2,h3⟩=>⟨h2.1.good,qaq.good us h3⟩
structure qrO {H:Type}(bk:DataW H→Nat) (bkA:List (DataW H)→Nat):Prop where
 int:∀k n,1≤bk (.lit (.int k n))
 bool:∀b,1≤bk (.lit (.bool b))
 str:∀s,s.length+1≤bk (.lit (.string s))
 nil:1≤bk .nil
 slice:∀es sp,bkA es+1≤bk (.slice es sp)
 agg:∀ps,bkA ps+1≤bk (.agg ps)
 cons:∀d r,bk d+bkA r≤bkA (d::r)
section
variable {H:Type}{enc:TypeId×Value→H}{P:Program}{w:World}{bk:DataW H→Nat}{bkA:List (DataW H)→Nat}
theorem qoF {a:Addr}{n:Nat}{cs:List Value}(h:w.cells? 0 a n=some cs):cs.length=n∧qfL w a cs∧(n≠0→a.block<w.heap.size):=by
 obtain⟨_,h1,h2⟩:=World.cells?_some h;refine⟨h1,fun j u hj=>?_,fun hn=>?_⟩
 ·have hlt:j<n:=by
   have:=(zao.1 hj).1;omega
  rw[h2 j hlt];exact hj
 ·have h0:=h2 0 (by omega);have:∃v,cs[0]? =some v:=⟨_,zaa (by omega)⟩;obtain⟨v,hv⟩:=this;rw[hv]at h0;have e:a.add 0=a:=by simp[Addr.add]
  rw[e]at h0;unfold World.cell? at h0;split at h0
  ·rename_i c t hh;exact(zav.1 hh).1
  ·cases h0
theorem qod {α β:Type}{R:Nat→α→β→Prop}:(n:Nat)→(ys:List β)→ys.length=n→(∀i y,ys[i]? =some y→∃x,R i x y)→∃xs:List α,xs.length=n∧∀(i:Nat) (x:α) (y:β),xs[i]? =some x→ys[i]? =some y→R i x y
 |0,ys,_,_=>⟨[],rfl,fun i x y h=>by simp at h⟩
 |n+1,[],h,_=>by simp at h
 |n+1,y::ys,h,hr=>by
  obtain⟨x,hx⟩:=hr 0 y rfl;obtain⟨xs,h1,h2⟩:=qod (R:=fun i=>R (i+1)) n ys (by simpa using h) fun i y hy=>hr (i+1) y (by simpa using hy);refine⟨x::xs,by simp[h1],fun i x' y' hx' hy'=>?_⟩;cases i with
  |zero=>simp at hx' hy';subst hx';subst hy';exact hx
  |succ i=>exact h2 i x' y' (by simpa using hx') (by simpa using hy')
theorem qou (hb:qrO bk bkA) {e:Ty}:(xs:List e.den)→(ys:List (DataW H×List MemPlace))→xs.length=ys.length→(∀(i:Nat) (x:e.den) (y:DataW H×List MemPlace),xs[i]? =some x→ys[i]? =some y→e.bulk x≤bk y.1)→(List.map e.bulk xs).sum≤bkA (ys.map (·.1))
 |[],_,_,_=>by simp
 |x::xs,[],h,_=>by simp at h
 |x::xs,y::ys,h,hr=>by
  have h0:=hr 0 x y rfl rfl;have h1:=qou hb xs ys (by simpa using h) fun i x y hx hy=>hr (i+1) x y (by simpa using hx) (by simpa using hy);have:=hb.cons y.1 (ys.map (·.1));simp only[zaZ,List.sum_cons];omega
theorem qtQ {t:Nat}(h:(qkw P .unit).1 t=true):∃fs,P.underlying t=some (.struct fs)∧fs.toList=[]∧P.cellsOf t=0:=by
 simp only[qkw]at h;split at h
 ·rename_i fs hu;simp only[zad,decide_eq_true_eq]at h;exact⟨fs,hu,by simpa using h.1,h.2⟩
 ·cases h
theorem qhK (hb:qrO bk bkA):(u:Ty)→
  (∀(fuel t:Nat) (cs:List Value) (y:DataW H×List MemPlace),(qkw P u).1 t=true→DataW.trod enc P w 0 (fun _=>true) true fuel t cs=some y→∃x:u.den,Rep w (fun b=>b<w.heap.size) u x cs∧u.bulk x≤bk y.1)∧
  (∀(m:Nat) (fs:List Field) (off:Nat) (cs:List Value) (ys:List (DataW H×List MemPlace)),(qkw P u).2 fs off=true→ys.length=fs.length→(∀(i:Nat) (f:Field),fs[i]? =some f→DataW.trod enc P w 0 (fun _=>true) true m f.type ((cs.drop f.offset).take (P.cellsOf f.type))=ys[i]?)→cs.length=off+u.size→
   ∃x:u.den,Rep w (fun b=>b<w.heap.size) u x (cs.drop off)∧u.bulk x≤bkA (ys.map (·.1))+1)
 |.int k=>by
  refine⟨fun fuel t cs y hd h=>?_,fun m fs off cs ys hd=>by cases hd⟩;simp only[qkw]at hd;split at hd
  ·rename_i k' hu;simp only[decide_eq_true_eq]at hd;subst hd;obtain⟨n,rfl,rfl,hw⟩:=DataW.trod_int hu h;refine⟨n,⟨rfl,?_⟩,hb.int k' n⟩;simpa[Lit.wf,IntKind.has]using hw
  ·cases hd
 |.bool=>by
  refine⟨fun fuel t cs y hd h=>?_,fun m fs off cs ys hd=>by cases hd⟩;simp only[qkw]at hd;split at hd
  ·rename_i hu;obtain⟨b,rfl,rfl⟩:=DataW.trod_bool hu h;exact⟨b,rfl,hb.bool b⟩
  ·cases hd
 |.err=>⟨fun fuel t cs y hd h=>(by cases hd),fun m fs off cs ys hd=>by cases hd⟩
 |.opt _=>⟨fun fuel t cs y hd h=>(by cases hd),fun m fs off cs ys hd=>by cases hd⟩
 |.map _ _=>⟨fun fuel t cs y hd h=>(by cases hd),fun m fs off cs ys hd=>by cases hd⟩
 |.str=>by
  refine⟨fun fuel t cs y hd h=>?_,fun m fs off cs ys hd=>by cases hd⟩;simp only[qkw]at hd;split at hd
  ·rename_i hu;obtain⟨s,rfl,rfl,hl⟩:=DataW.trod_string hu h;refine⟨s.data.toList,⟨by simp,?_⟩,hb.str _⟩;rw[zaI];exact hl
  ·cases hd
 |.unit=>by
  refine⟨fun fuel t cs y hd h=>?_,fun m fs off cs ys hd hl _ hcl=>?_⟩
  ·obtain⟨fs,hu,hf,hc⟩:=qtQ hd;obtain⟨xs,n,rfl,rfl,hl,_⟩:=DataW.trod_struct hu h;have:cs=[]:=zaV (by omega);subst this;have:=hb.agg (xs.map (·.1));exact⟨(),rfl,by show 1≤_;simp only;omega⟩
  ·have:cs.drop off=[]:=za1 (by rw[hcl];exact zay _);exact⟨(),this,by show 1≤_;omega⟩
 |.pair a b=>by
  obtain⟨ha,_⟩:=qhK hb a;obtain⟨_,hb2⟩:=qhK hb b;have fld:∀(m:Nat) (fs:List Field) (off:Nat) (cs:List Value) (ys:List (DataW H×List MemPlace)),qnQ P (qkw P a).1 a.size (qkw P b).2 fs off=true→ys.length=fs.length→(∀(i:Nat) (f:Field),fs[i]? =some f→DataW.trod enc P w 0 (fun _=>true) true m f.type ((cs.drop f.offset).take (P.cellsOf f.type))=ys[i]?)→cs.length=off+(a.size+b.size)→
   ∃x:(Ty.pair a b).den,Rep w (fun b=>b<w.heap.size) (.pair a b) x (cs.drop off)∧(Ty.pair a b).bulk x≤bkA (ys.map (·.1))+1:=by
   intro m fs off cs ys hd hl hi hcl;cases fs with
   |nil=>cases hd
   |cons f r=>
    simp only[qnQ,zad,decide_eq_true_eq]at hd;obtain⟨h1,h2,h3,h4⟩:=hd;cases ys with
    |nil=>simp at hl
    |cons y ys=>
     have h0:=hi 0 f rfl;rw[h1,h2]at h0;obtain⟨xa,k1,k2⟩:=ha m f.type _ y h3 h0;obtain⟨xb,k3,k4⟩:=hb2 m r (off+a.size) cs ys h4 (by simpa using hl) (fun i f' hf'=>by have:=hi (i+1) f' (by simpa using hf');simpa using this) (by omega);refine⟨(xa,xb),⟨_,_,?_,k1,k3⟩,?_⟩
     ·rw[←List.drop_drop,zaK]
     ·have:=hb.cons y.1 (ys.map (·.1));show a.bulk xa+b.bulk xb≤_;simp only[zaZ];omega
  refine⟨fun fuel t cs y hd h=>?_,fld⟩;simp only[qkw]at hd;split at hd
  ·rename_i fs hu;simp only[zad,decide_eq_true_eq]at hd;obtain⟨xs,n,rfl,rfl,hl,hxl,hxi⟩:=DataW.trod_struct hu h;obtain⟨x,k1,k2⟩:=fld n fs.toList 0 cs xs hd.1 (by simpa using hxl) (fun i f hf=>hxi i f (by simpa using hf)) (by omega);have:=hb.agg (xs.map (·.1));exact⟨x,by simpa using k1,by simp only;omega⟩
  ·cases hd
 |.slice e=>by
  obtain⟨he,_⟩:=qhK hb e;refine⟨fun fuel t cs y hd h=>?_,fun m fs off cs ys hd=>by cases hd⟩;simp only[qkw]at hd;split at hd
  ·rename_i et hu;simp only[zad,decide_eq_true_eq]at hd;obtain⟨h1,h2,h3⟩:=hd;rcases DataW.trod_slice hu h with⟨rfl,rfl⟩|⟨a,len,cap,elems,rest,n,rfl,rfl,rfl,_,g1,g2,g3,g4,_⟩
   ·exact⟨[],⟨_,rfl,.inl ⟨rfl,rfl⟩⟩,by show 0+1≤_;exact hb.nil⟩
   ·obtain⟨xs,k1,k2⟩:=qod (α:=e.den) (R:=fun i x y=>a.block<w.heap.size∧(∃cs,qfL w (a.add (i*e.size)) cs∧Rep w (fun b=>b<w.heap.size) e x cs)∧e.bulk x≤bk y.1) len elems g3 (fun i y hy=>by
     have hlt:i<len:=by
      have:=(zao.1 hy).1;omega
     have:=g4 i hlt;rw[hy,h1]at this;obtain⟨cs,hc1,hc2⟩:=Option.bind_eq_some_iff.1 this;obtain⟨q1,q2,q3⟩:=qoF hc1;obtain⟨x,r1,r2⟩:=he n et cs y h3 hc2;exact⟨x,by simpa[qam]using q3 h2,⟨cs,q2,r1⟩,r2⟩)
    have idx:∀(i:Nat) (x:e.den),xs[i]? =some x→∃y,elems[i]? =some y:=fun i x hx=>⟨_,zaa (by have:=(zao.1 hx).1;omega)⟩;refine⟨xs,⟨_,rfl,.inr ⟨a,cap,by rw[k1],by omega,g2,fun i x hx=>?_⟩⟩,?_⟩
    ·obtain⟨y,hy⟩:=idx i x hx;obtain⟨q1,q2,_⟩:=k2 i x y hx hy;exact⟨q1,q1,q2⟩
    ·have:=qou hb xs elems (by omega) fun i x y hx hy=>(k2 i x y hx hy).2.2;have:=hb.slice (elems.map (·.1)) (rest.map (·.1));show(List.map e.bulk xs).sum+1≤_;simp only;omega
  ·cases hd
 |.arr n e=>by
  obtain⟨he,_⟩:=qhK hb e;refine⟨fun fuel t cs y hd h=>?_,fun m fs off cs ys hd=>by cases hd⟩;simp only[qkw]at hd;split at hd
  ·rename_i m et hu;simp only[zad,decide_eq_true_eq]at hd;obtain⟨rfl,h1,h2,h3⟩:=hd;obtain⟨ys,k,rfl,rfl,g1,g2,g3⟩:=DataW.trod_array hu h;obtain⟨xs,k1,k2⟩:=qod (α:=e.den) (R:=fun i x y=>Rep w (fun b=>b<w.heap.size) e x ((cs.drop (i*e.size)).take e.size)∧e.bulk x≤bk y.1) m ys g2 (fun i y hy=>by
    have hlt:i<m:=by
     have:=(zao.1 hy).1;omega
    have:=g3 i hlt;rw[hy,h1]at this;exact he k et _ y h3 this)
   refine⟨xs,⟨k1,(List.range m).map (fun i=>(cs.drop (i*e.size)).take e.size),by simp,?_,fun i x c hi hc=>?_⟩,?_⟩
   ·rw[h2]at g1;clear g3 k2 k1 g2 h hu h2;induction m generalizing cs with
    |zero=>simp at g1;subst g1;rfl
    |succ m ih=>
     have:=ih (cs:=cs.drop e.size) (by rw[zap,g1,zbc];omega);rw[List.range_succ_eq_map,zaZ,zaX,List.map_map];rw[Nat.zero_mul,zbe];have e2:((fun i=>List.take e.size (List.drop (i*e.size) cs)) ∘ Nat.succ)=fun i=>List.take e.size (List.drop (i*e.size) (cs.drop e.size)):=by
      funext i;simp only[Function.comp,List.drop_drop];rw[Nat.succ_mul,Nat.add_comm]
     rw[e2,←this,zaK]
   ·have hlt:i<m:=by
     have:=(zao.1 hi).1;omega
    have hy:ys[i]? =some (ys[i]'(by omega)):=zaa (by omega);rw[List.getElem?_map,List.getElem?_range hlt]at hc;simp only[Option.map_some,zbg.injEq]at hc;rw[←hc];exact(k2 i x _ hi hy).1
   ·have:=qou hb xs ys (by omega) fun i x y hx hy=>(k2 i x y hx hy).2;have:=hb.agg (ys.map (·.1));show(List.map e.bulk xs).sum+1≤_;simp only;omega
  ·cases hd
theorem qs1 {u:Ty}{t:Nat}{v:Value}{r:Reach}{b0:Nat}(hd:(qkw P u).1 t=true) (hv:Value.okWide P w r b0 t v):(u.agg=true→∃cs,v=.agg cs)∧(u.agg=false→∀cs,v≠ .agg cs):=by
 cases u with
 |err=>cases hd
 |opt _=>cases hd
 |map _ _=>cases hd
 |int k=>
  simp only[qkw]at hd;split at hd
  ·rename_i hu;obtain⟨n,rfl⟩:=okWide_int hu hv;exact⟨fun h=>(by cases h),fun _ cs h=>(by cases h)⟩
  ·cases hd
 |bool=>
  simp only[qkw]at hd;split at hd
  ·rename_i hu;obtain⟨n,rfl⟩:=okWide_bool hu hv;exact⟨fun h=>(by cases h),fun _ cs h=>(by cases h)⟩
  ·cases hd
 |str=>
  simp only[qkw]at hd;split at hd
  ·rename_i hu;obtain⟨n,rfl⟩:=okWide_string hu hv;exact⟨fun h=>(by cases h),fun _ cs h=>(by cases h)⟩
  ·cases hd
 |slice e=>
  simp only[qkw]at hd;split at hd
  ·rename_i hu;obtain⟨a,n,c,rfl⟩:=okWide_slice hu hv;exact⟨fun h=>(by cases h),fun _ cs h=>(by cases h)⟩
  ·cases hd
 |unit=>
  simp only[qkw]at hd;split at hd
  ·rename_i hu;obtain⟨cs,h,_⟩:=okWide_struct hu hv;exact⟨fun _=>⟨cs,h⟩,fun h=>(by cases h)⟩
  ·cases hd
 |pair a b=>
  simp only[qkw]at hd;split at hd
  ·rename_i hu;obtain⟨cs,h,_⟩:=okWide_struct hu hv;exact⟨fun _=>⟨cs,h⟩,fun h=>(by cases h)⟩
  ·cases hd
 |arr n e=>
  simp only[qkw]at hd;split at hd
  ·rename_i hu;unfold Value.okWide at hv;rw[hu]at hv;obtain⟨cs,h,_⟩:=hv;exact⟨fun _=>⟨cs,h⟩,fun h=>(by cases h)⟩
  ·cases hd
def qkl:(us:List Ty)→PMs.den (us.map .val)→Nat
 |[],_=>0
 |u::us,x=>u.bulk x.1+qkl us x.2
def qiO (P:Program):List Ty→List Nat→Bool
 |[],[]=>true
 |u::us,t::ts=>(qkw P u).1 t&&qiO P us ts
 |_,_=>false
theorem qpA (hb:qrO bk bkA) {r:Reach}{b0:Nat}:(us:List Ty)→{ts:List Nat}→{vs:List Value}→{ds:List (DataW H)}→{ps:List MemPlace}→qiO P us ts=true→(∀(j:Nat) t v,ts[j]? =some t→vs[j]? =some v→Value.okWide P w r b0 t v)→
  DataW.TrodAll enc P w 0 (fun _=>true) true ts vs ds ps→∃x:PMs.den (us.map .val),qaq P w (fun b=>b<w.heap.size) (us.map .val) x vs [] []∧qkl us x≤bkA ds
 |[],[],vs,ds,ps,_,_,h=>by
  obtain⟨rfl,rfl,rfl⟩:=trodAll_nil h;exact⟨(),⟨rfl,rfl,rfl⟩,za6 _⟩
 |u::us,t::ts,vs,ds,ps,hd,hv,h=>by
  simp only[qiO,zad]at hd;obtain⟨v,vs',d,ds',p,q,rfl,rfl,rfl,h0,hr⟩:=trodAll_cons h;obtain⟨fuel,h0⟩:=h0;obtain⟨x,k1,k2⟩:=(qhK hb u).1 fuel t _ _ hd.1 h0;obtain⟨xs,k3,k4⟩:=qpA hb us hd.2 (fun j t' v' ht hv'=>hv (j+1) t' v' (by simpa using ht) (by simpa using hv')) hr;have:=hb.cons d ds';exact⟨(x,xs),⟨v,vs',rfl,⟨k1,qs1 hd.1 (hv 0 t v rfl rfl)⟩,k3⟩,by show u.bulk x+qkl us xs≤_;simp only at k2;omega⟩
theorem qoT {W W':World}{sp:Nat→Bool}(hl:laidOutB P=true): {ts:List Nat}→{vs:List Value}→{ds:List (DataW H)}→{ps:List MemPlace}→(∀t∈ts,P.readableRec t=true∧t<P.types.size)→DataW.TrodAll enc P W 0 (fun _=>true) true ts vs ds ps→Below W.heap.size W W'→(∀x∈ps,x.block<W.heap.size)→(∀x∈ps,sp x.block=true)→
  DataW.TrodAll enc P W' 0 sp true ts vs ds ps
 |[],_,_,_,_,h,_,_,_=>by
  obtain⟨rfl,rfl,rfl⟩:=trodAll_nil h;rfl
 |t::ts,_,_,_,ht,h,hb,hlt,hs=>by
  obtain⟨v,vs',d,ds',p,q,rfl,rfl,rfl,h0,hr⟩:=trodAll_cons h;exact trodAll_cons_mk (WideElems.Trod_stays hl (ht t zai).1 (ht t zai).2 h0 (fun x hx=>hb.same (hlt x (zac _ hx))) fun x hx=>hs x (zac _ hx)) (qoT hl (fun t' h'=>ht t' (zae _ h')) hr hb (fun x hx=>hlt x (zab _ hx)) fun x hx=>hs x (zab _ hx))
end
end Go.Vi
namespace Go.Vi
open Go.RowKit Go.WideShapes Go.ChangeShapes
section
variable {H:Type}{enc:TypeId×Value→H}{P:Program}
theorem qrQ {f:Func}{s:ChangeSpec}{apart fresh handsOn again:Bool}{W W':World}{args:Array Value}{v:Value}{ds gs:List (DataW H)}{before pa pv:List MemPlace}
  (hW:DataW.Whole enc P f.params.toList s.vars apart W args.toList ds gs before)
  (hres:∀(b:Nat) (sp:Nat→Bool) (hd:Bool),DataW.TrodAll enc P W' b sp hd f.resultTypes.toList (v.resultList f.resultTypes.size) (s.fn H (ds++gs)).results [])
  (hargs:∀sp:Nat→Bool,(∀p∈before,sp p.block=true)→DataW.TrodAll enc P W' 0 sp true f.params.toList args.toList (s.fn H (ds++gs)).args pa)
  (hvars:∀sp:Nat→Bool,(∀p∈before,sp p.block=true)→DataW.TrodVars enc P W' sp s.vars (s.fn H (ds++gs)).vars pv)
  (hps:before=pa++pv) (hb:Below W.heap.size W W')
  (hok:∀(j:Nat) (t:TypeId) (r:Value),f.resultTypes[j]? =some t→(v.resultList f.resultTypes.size)[j]? =some r→Value.okWide P W' .any 0 t r):
  s.post enc P f apart fresh handsOn again W args v W':=by
 have hlt:∀p∈before,p.block<W.heap.size:=fun p hp=>hW.lt p hp;have hold:∀p∈before,(fun b=>decide (b<W.heap.size)) p.block=true:=fun p hp=>by simpa using hlt p hp
 refine⟨ds,gs,before,[],pa,pv,hW,hres _ _ _,hargs _ hold,hvars _ hold,World.keptBut_mono (fun p hp=>⟨hp,?_⟩) (hb.frame (· ∈before)),fun _=>?_⟩
 ·rw[hps,zaj]at hp;exact Or.inr hp
 ·obtain⟨_,_,_,_,_,hz,hn⟩:=hW;refine⟨hok,_,_,([]++pa)++pv,⟨[]++pa,pv,trodAll_append (hargs _ (fun _ _=>rfl)) (hres _ _ _),hvars _ (fun _ _=>rfl),rfl,?_,?_⟩,?_⟩
  ·intro b off hp;have hin:MemPlace.cell b off∈before:=by rw[hps];simpa using hp
   rw[hb.frozen (hlt _ hin)];exact hz b off hin
  ·intro ha;have:=hn ha;rw[hps]at this;simpa using this
  ·intro p hp _;rw[hps];simpa using hp
theorem qn1 {T:qpF}{bk:DataW H→Nat}{bkA:List (DataW H)→Nat}(hb:qrO bk bkA) {B:Nat}{fi:Nat}{fn:Func}{s:ChangeSpec}{apart fresh handsOn again:Bool}{us:List Ty}{ts:List Nat}{tb:Nat}{sem:Nat→PMs.den (us.map .val)→Option (RMs.den [.val .bool]×PMs.ioDen (us.map .val))}
  (hp:fn.params.toList=ts) (hr:fn.resultTypes= #[tb]) (htb:P.underlying tb=some .bool) (hdeep:qiO P us ts=true) (hl:laidOutB P=true) (hread:ts.all (fun t=>P.readableRec t&&decide (t<P.types.size))=true) (hvars:s.vars=[])
  (hfn:∀ds:List (DataW H),ds.length=us.length→s.fn H ds= { results:=[.lit (.bool true)],args:=ds })
  (hC:∀N,qr.okT P T fi ⟨us.map .val,[.val .bool],sem N⟩) (hsem:∀x,qmL us x→qkl us x≤B→∃N z,sem N x=some ((true,()),z))
  {W:World}{args:Array Value}{ds gs:List (DataW H)}{before:List MemPlace}{r:Reach}{base:Nat}
  (hT:qen T W fun b=>b<W.heap.size)
  (hval:∀(j:Nat) t v,fn.params[j]? =some t→args[j]? =some v→Value.okWide P W r base t v)
  (hW:DataW.Whole enc P fn.params.toList s.vars apart W args.toList ds gs before) (hk:bkA (ds++gs)≤B):
  Calls P fi args W fun e W'=>∃v,e=.returned v∧s.post enc P fn apart fresh handsOn again W args v W':=by
 have hW':=hW;obtain⟨p,q,hA,hV,rfl,hfz,hnd⟩:=hW;rw[hvars]at hV;obtain⟨rfl,rfl⟩:=trodVars_none hV;rw[hp]at hA;have hrd:∀t∈ts,P.readableRec t=true∧t<P.types.size:=fun t ht=>by
  have:=zaN.1 hread t ht;simpa using this
 have hlen:∀ {ts:List Nat}{us:List Ty}{vs:List Value}{ds:List (DataW H)}{p:List MemPlace},qiO P us ts=true→DataW.TrodAll enc P W 0 (fun _=>true) true ts vs ds p→ds.length=us.length:=by
  intro ts;induction ts with
  |nil=>
   intro us vs ds p hd h;obtain⟨rfl,rfl,rfl⟩:=trodAll_nil h;cases us with
   |nil=>rfl
   |cons u us=>cases hd
  |cons t ts ih=>
   intro us vs ds p hd h;obtain⟨v,vs',d,ds',p,q,rfl,rfl,rfl,h0,hr⟩:=trodAll_cons h;cases us with
   |nil=>cases hd
   |cons u us=>
    simp only[qiO,zad]at hd;simp only[zba];rw[ih hd.2 hr]
 have hdl:=hlen hdeep hA;obtain⟨x,k1,k2⟩:=qpA hb us hdeep (fun j t v ht hv=>hval j t v (by rw[←Array.getElem?_toList,hp];exact ht) (by rw[←Array.getElem?_toList];exact hv)) hA;rw[zar]at hk;obtain⟨N,z,hz⟩:=hsem x (qaq.good us k1) (by omega);have:=(hC N).2 W (fun b=>b<W.heap.size) x ((true,()),z) args.toList [] [] hT k1 (fun b hb=>by cases hb) zaH hz;rw[Array.toArray_toList]at this;refine this.mono fun e W' ⟨v,he,vs,bs,js,hv,_,_,hcs,_,hkept⟩=>⟨v,he,?_⟩;obtain⟨v',r',b1,b2,rfl,rfl,⟨rfl,hrep,_,hna⟩,hnil,_⟩:=hcs;subst hnil;have hv':v'=.bool true:=by
  have:v'.cells.toList=[.bool true]:=hrep;have hna:=hna rfl;cases v'<;>simp_all [Value.cells]
 rw[hv']at hv;have hv:v=.bool true:=hv;rw[hv];have hbelow:Below W.heap.size W W':=⟨hkept.os,hkept.tape,hkept.output,hkept.size,fun k hk=>hkept.block k hk fun h=>by cases h⟩;have hlt:∀x∈p,x.block<W.heap.size:=fun x hx=>hW'.lt x (by simpa using hx);refine qrQ (pa:=p) (pv:=[]) hW' (fun b sp hd=>?_) (fun sp hsp=>?_) (fun sp _=>?_) rfl hbelow (ok_one hr rfl (okWide_bool_mk htb true))
 ·rw[zar,hfn ds hdl,hr];exact trodAll_cons_mk (p':=[]) (shut_bool htb true) trodAll_mk0
 ·rw[zar,hfn ds hdl,hp];exact qoT hl hrd hA hbelow hlt fun x hx=>hsp x (by simpa using hx)
 ·rw[zar,hfn ds hdl,hvars];rfl
theorem qpy {bk:DataW H→Nat}{bkA:List (DataW H)→Nat}(hb:qrO bk bkA) {B:Nat}{fi:Nat}{fn:Func}{s:ChangeSpec}{apart fresh handsOn again:Bool}{us:List Ty}{ts:List Nat}{tb:Nat}{sem:Nat→PMs.den (us.map .val)→Option (RMs.den [.val .bool]×PMs.ioDen (us.map .val))}
  (hp:fn.params.toList=ts) (hr:fn.resultTypes= #[tb]) (htb:P.underlying tb=some .bool) (hdeep:qiO P us ts=true) (hl:laidOutB P=true) (hread:ts.all (fun t=>P.readableRec t&&decide (t<P.types.size))=true) (hvars:s.vars=[])
  (hfn:∀ds:List (DataW H),ds.length=us.length→s.fn H ds= { results:=[.lit (.bool true)],args:=ds })
  (hC:∀N,qr.ok P fi ⟨us.map .val,[.val .bool],sem N⟩) (hsem:∀x,qmL us x→qkl us x≤B→∃N z,sem N x=some ((true,()),z))
  {W:World}{args:Array Value}{ds gs:List (DataW H)}{before:List MemPlace}{r:Reach}{base:Nat}
  (hval:∀(j:Nat) t v,fn.params[j]? =some t→args[j]? =some v→Value.okWide P W r base t v)
  (hW:DataW.Whole enc P fn.params.toList s.vars apart W args.toList ds gs before) (hk:bkA (ds++gs)≤B):
  Calls P fi args W fun e W'=>∃v,e=.returned v∧s.post enc P fn apart fresh handsOn again W args v W':=by
 exact qn1 hb hp hr htb hdeep hl hread hvars hfn hC hsem qen.none hval hW hk
end
end Go.Vi
namespace Go.Vi
open Go.RowKit
theorem qrG {P:Program}{f:Nat}{fn:Func}(hf:P.funcs[f]? =some fn) (hb:fn.body.isSome=true) (hname:(fn.name== "runtime.NumGoroutine")=false) (φ:List UInt8→List UInt8→Int) (hφ:∀a b,IntKind.i64.has (φ a b))
  (h:∀(a b:ByteArray) (w:World),Calls P f #[.string a,.string b] w fun e w'=>e=.returned (.int .i64 (φ a.data.toList b.data.toList))∧w'=w):
  qr.ok P f ⟨[.val .str,.val .str],[.val (.int .i64)],fun x=>some ((φ x.1 x.2.1,()),())⟩:=by
 obtain⟨c,hc⟩:=Option.isSome_iff_exists.1 hb;refine⟨fun as w=>qcN hf hc hname as w,fun w F x y as g i _ hp hpre hn hy=>?_⟩;obtain⟨a,b,_⟩:=x;obtain⟨v1,r1,rfl,h1,v2,r2,rfl,h2,rfl,rfl,rfl⟩:=hp;obtain⟨e1,_⟩:=qau.str h1;obtain⟨e2,_⟩:=qau.str h2;subst e1;subst e2;injection hy with hy;subst hy;refine(h ⟨List.toArray a⟩ ⟨List.toArray b⟩ w).mono fun e w' ⟨he,hw⟩=>⟨_,he,?_⟩;subst hw;refine qr.Post.mk0 [_] [] rfl zaH (fun b hb=>(by cases hb)) ⟨_,_,[],[],rfl,rfl,⟨rfl,?_⟩,rfl,rfl⟩ ⟨rfl,rfl⟩ (qbc.refl _ _);exact qau.ofInt _ _ (hφ _ _)
theorem qk6 (a b:List UInt8):IntKind.i64.has (Lib.compareBytes a b):=by
 have:Lib.compareBytes a b= -1∨Lib.compareBytes a b=0∨Lib.compareBytes a b=1:=by
  induction a generalizing b with
  |nil=>cases b<;>simp[Lib.compareBytes]
  |cons x a ih=>cases b with
   |nil=>simp[Lib.compareBytes]
   |cons y b=>
    simp only[Lib.compareBytes];split
    ·simp
    ·split
     ·simp
     ·exact ih b
 rcases this with h|h|h<;>rw[h]<;>exact⟨by decide,by decide⟩
end Go.Vi
namespace Go.Vi
open Go.RowKit
def qvt (w:World) (g:Nat) (r:(t:Ty)×t.den):Prop:=g<w.heap.size∧∃(cs:List Value) (te:Nat) (fz:Nat×Nat),w.heap[g]? =some (.cells cs.toArray te fz)∧Rep w (fun b=>b<w.heap.size) r.1 r.2 cs
theorem qtE {P:Program}{w:World}{n:String}{g:Nat}{cs:Array Value}(hg:P.globalNamed n=some g) (h:w.var? P n=some cs):g<w.heap.size∧∃(te:Nat) (fz:Nat×Nat),w.heap[g]? =some (.cells cs te fz):=by
 rw[World.var?,hg]at h;simp only[Option.bind_some]at h;split at h
 ·rename_i c te fz e;injection h with h;subst h;exact⟨(zav.1 e).1,te,fz,e⟩
 ·cases h
theorem qvt.err {P:Program}{w:World}{n:String}{g:Nat}{t:TypeId}{x:Value}(hg:P.globalNamed n=some g) (h:w.var? P n=some #[.iface t x]):qvt w g ⟨.err,false⟩:=by
 obtain⟨h1,te,fz,h2⟩:=qtE hg h;exact⟨h1,[.iface t x],te,fz,h2,_,rfl,.inr ⟨rfl,t,x,rfl⟩⟩
end Go.Vi
namespace Go.Vi
open Go.RowKit
theorem qfn {P:Program}{ops:Array Oper}{o:Oper}{a:Act}{w:World}{K:Act→World→Prop}{Q:Exit→Act→World→Prop}{E:Prop}
  (hg:o.guard=none) (d x:Operand) (dT sT:TypeId) (hop:o.op=Op.call { callee:=Callee.builtin Builtin.copy,args:= #[d,x],argTypes:= #[dT,sT] })
  (v u:Value) (hd:a.eval d=v) (hx:a.eval x=u) {v':Value}{w':World}(hr:(Builtin.copy_ #[dT,sT] o.type #[v,u]).run P w=.ok v' w') (hK:K (a.put o.dst v') w'):
  if Region.wanted o (yielded ops a.tmps)=true then Oper.wp P o a w K Q else E:=by
 have hw:Region.wanted o (yielded ops a.tmps)=true:=by simp[Region.wanted,hg]
 rw[if_pos hw];unfold Oper.wp;simp[execOp,hop,resolve,invoke,builtin,hd,hx,hr,Result.andThen];exact hK
theorem qbc.setRow {O:Nat→Prop}{w0 w:World}{g:Nat}(h:qbc O w0 w) (hg:O g) (cs:Array Value):qbc O w0 (w.setRow g cs):=
 h.trans ⟨rfl,rfl,rfl,by simp[World.setRow],fun k _ hk=>setRow_other w g k cs (fun e=>hk (e▸hg))⟩
theorem qaV {w:World}{g:Nat}{cur:List Value}{t:TypeId}{fz:Nat×Nat}(h:w.heap[g]? =some (.cells cur.toArray t fz)) (cs:Array Value):(w.setRow g cs).heap[g]? =some (.cells cs t fz):=setRow_heap w g _ cs t fz h
def qcI {α:Type}(R:α→List Value→Prop) (sz:Nat) (xs:List α) (cells:List Value):Prop:=
 cells.length=xs.length*sz∧∀(j:Nat) (x:α),xs[j]? =some x→R x ((cells.drop (j*sz)).take sz)
theorem qcI.append {α:Type}{R:α→List Value→Prop}{sz:Nat}{xs ys:List α}{a b:List Value}(h:qcI R sz xs a) (k:qcI R sz ys b):qcI R sz (xs++ys) (a++b):=by
 refine⟨by rw[zag,zag,h.1,k.1,zbc],fun j x hj=>?_⟩;by_cases hlt:j<xs.length
 ·rw[zaP hlt]at hj;have h1:(j+1)*sz≤xs.length*sz:=zaq _ hlt;rw[zbc,Nat.one_mul]at h1;have h2:=h.2 j x hj;rwa [List.drop_append_of_le_length (by rw[h.1];omega),zaG (by rw[zap,h.1];omega)]
 ·rw[zaL (by omega)]at hj;have h2:=k.2 _ x hj;have e:j*sz=xs.length*sz+(j-xs.length)*sz:=by rw[←zbc];congr 1;omega
  rw[e,List.drop_append,za1 (l:=a) (by rw[h.1];omega),List.nil_append,h.1,Nat.add_sub_cancel_left];exact h2
theorem qcI.take {α:Type}{R:α→List Value→Prop}{sz:Nat}{xs:List α}{a:List Value}(h:qcI R sz xs a) (k:Nat) (hk:k≤xs.length):qcI R sz (xs.take k) (a.take (k*sz)):=by
 have h0:k*sz≤xs.length*sz:=zaq _ hk;refine⟨by rw[zaf,zaf,h.1,Nat.min_eq_left h0,Nat.min_eq_left hk],fun j x hj=>?_⟩;rw[zal]at hj;split at hj;case isFalse=>cases hj
 rename_i hlt;have h1:(j+1)*sz≤k*sz:=zaq _ hlt;rw[zbc,Nat.one_mul]at h1;have h2:=h.2 j x hj;rwa [List.drop_take,List.take_take,Nat.min_eq_left (by omega)]
theorem qcI.drop {α:Type}{R:α→List Value→Prop}{sz:Nat}{xs:List α}{a:List Value}(h:qcI R sz xs a) (k:Nat):qcI R sz (xs.drop k) (a.drop (k*sz)):=by
 refine⟨by rw[zap,zap,h.1,Nat.sub_mul],fun j x hj=>?_⟩;rw[zan]at hj;have h2:=h.2 _ x hj;rwa [List.drop_drop,←zbc]
theorem qcI.mono {α:Type}{R R':α→List Value→Prop}{sz:Nat}{xs:List α}{a:List Value}(h:qcI R sz xs a) (hR:∀x c,R x c→R' x c):qcI R' sz xs a:=⟨h.1,fun j x hj=>hR _ _ (h.2 j x hj)⟩
theorem q8.yx {w:World}{F:Nat→Prop}{et:Nat}{e:Ty}{xs:List e.den}{v:Value}{bs:List Nat}(hm:etM et=[]) (h:q8 w F et e xs v bs):∃cells,w.ownsRow 0 et e.size v xs.length cells∧bs=v.ownBlock.toList∧qcI (Rep w F e) e.size xs cells:=by
 obtain⟨cells,h1,h2,h3⟩:=h.to0 hm;exact⟨cells,h1,h2,h1.1,h3⟩
theorem qcI.own {w:World}{F:Nat→Prop}{et:Nat}{e:Ty}{xs:List e.den}{v:Value}{cells:List Value}{n:Nat}(h:qcI (Rep w F e) e.size xs cells) (hm:etM et=[]) (ho:w.ownsRow 0 et e.size v n cells) (hn:n=xs.length):q8 w F et e xs v v.ownBlock.toList:=by
 subst hn;exact qar.to hm ⟨cells,ho,rfl,h.2⟩
theorem qcI.oneCell {w:World}{F:Nat→Prop}{e:Ty}: {xs:List e.den}→{cells:List Value}→qcI (Rep w F e) e.size xs cells→∀u∈cells,u.oneCell'=true
 |[],cells,h,u,hu=>by
  have:cells=[]:=zaV (by rw[h.1];simp);rw[this]at hu;cases hu
 |x::xs,cells,h,u,hu=>by
  have h0:=h.2 0 x rfl;rw[Nat.zero_mul,zbe]at h0;rw[←zaK e.size cells]at hu;rcases zaj.1 hu with hu|hu
  ·exact h0.oneCell u hu
  ·have h1:=h.drop 1;rw[Nat.one_mul]at h1;exact qcI.oneCell (xs:=xs) h1 u hu
def qnS (P:Program) (f te sz bytes:Nat):Prop:=∀(w:World) (v vv:Value) (n m i:Nat) (xs vs:List Value),w.ownsRow 0 te sz v n xs→w.ownsRow 0 te sz vv m vs→(∀b,v.ownBlock=some b→vv.ownBlock≠some b)→i≤n→
 (n+m)*bytes≤140737488355328→(∀u∈xs,u.oneCell'=true)→(∀u∈vs,u.oneCell'=true)→
 Calls P f #[v,.int .i64 i,vv] w fun e w'=>∃v',e=.returned v'∧w'.ownsRow 0 te sz v' (n+m) (xs.take (i*sz)++vs++xs.drop (i*sz))∧qbc (fun b=>v.ownBlock=some b) w w'∧∀b,v'.ownBlock=some b→v.ownBlock=some b∨w.heap.size≤b
theorem qq8 {w:World}{te sz n:Nat}{v:Value}{xs:List Value}(h:w.ownsRow 0 te sz v n xs):∀b,v.ownBlock=some b→b<w.heap.size:=fun b hb=>(h.lt b hb).2
theorem qfy {o:Option Nat}{b:Nat}(h:b∈o.toList):o=some b:=by
 cases o with
 |none=>cases h
 |some c=>simp at h;rw[h]
theorem qkT {i:Int}{n:Nat}(h0:0≤i) (h1:i≤(n:Int)):∃j:Nat,i=(j:Int)∧j≤n:=⟨i.toNat,by omega,by omega⟩
theorem qsF {P:Program}{T:qpF}{f te bytes:Nat}{fn:Func}{e:Ty}(hf:P.funcs[f]? =some fn) (hb:fn.body.isSome=true) (hname:(fn.name== "runtime.NumGoroutine")=false) (hw:qnS P f te e.size bytes) (hmk:etM te=[]:=by rfl):
  qr.okT P T f ⟨[.own te e,.val (.int .i64),.own te e],[.own te e],fun x=>if 0≤x.2.1∧x.2.1≤(x.1.length:Int)∧(x.1.length+x.2.2.1.length)*bytes≤140737488355328 then some ((x.1.take x.2.1.toNat++x.2.2.1++x.1.drop x.2.1.toNat,()),())else none⟩:=by
 obtain⟨c,hc⟩:=Option.isSome_iff_exists.1 hb;refine⟨fun as w=>qcN hf hc hname as w,fun w F x y as g io hT hp hpre hn hy=>?_⟩;obtain⟨xs,i,vs,⟨⟩⟩:=x;obtain⟨v1,r1,g1,g2,rfl,rfl,o1,v2,r2,rfl,h2,v3,r3,g3,g4,rfl,rfl,o3,rfl,rfl,rfl⟩:=hp;simp only at hy;split at hy;case isFalse=>cases hy
 rename_i hcond;obtain⟨c1,c2,c3⟩:=hcond;injection hy with hy;subst hy;obtain⟨rfl,_⟩:=qau.int h2;simp only at o1 o3 c1 c2 c3;obtain⟨cs1,w1,rfl,k1⟩:=q8.yx hmk o1;obtain⟨cs3,w3,rfl,k3⟩:=q8.yx hmk o3;obtain⟨j,rfl,hj⟩:=qkT c1 c2;simp only[zar]at hpre hn;have hne:∀b,v1.ownBlock=some b→v3.ownBlock≠some b:=fun b h1 h3=>by
  rw[h1,h3]at hn;simp at hn
 have hF:∀b,F b→v1.ownBlock≠some b:=fun b hb h=>(hpre b (zac _ (by rw[h];simp))).1 hb;refine(hw w v1 v3 xs.length vs.length j cs1 cs3 w1 w3 hne hj c3 k1.oneCell k3.oneCell).mono ?_;rintro en w' ⟨v',rfl,a1,a2,a3⟩;have inBs:∀b,b∈v'.ownBlock.toList→(v1.ownBlock=some b∨w.heap.size≤b)∧b<w'.heap.size:=fun b hb=>by
  have e:=qfy hb;exact⟨a3 b e,qq8 a1 b e⟩
 have keep:∀b,F b→b<w.heap.size→qgn w F (v1.ownBlock.toList++v3.ownBlock.toList) [] v'.ownBlock.toList b∧b<w'.heap.size∧w'.heap[b]? =w.heap[b]? :=fun b hb hlt=>by
  refine⟨⟨.inl hb,fun hm=>?_,by simp⟩,zaE hlt a2.size,a2.block b hlt (hF b hb)⟩;rcases(inBs b hm).1 with h|h
  ·exact hF b hb h
  ·omega
 refine⟨v',rfl,qr.Post.mk0 [v'] v'.ownBlock.toList rfl ?_ (fun b hb=>?_) ⟨v',[],_,[],rfl,by rw[zar],?_,rfl,rfl⟩ ⟨rfl,rfl⟩ ?_⟩
 ·cases v'.ownBlock<;>simp
 ·obtain⟨h1,h2⟩:=inBs b hb;refine⟨h1.imp (fun h=>?_) id,h2⟩;rw[zar];exact zac _ (by rw[h];simp)
 ·have hk:=((k1.take j hj).append k3).append (k1.drop j);have hl:(xs.take j++vs++xs.drop j).length=xs.length+vs.length:=by
   simp only[zag,zaf,zap];omega
  have:=(hk.mono fun x c h=>h.keep keep).own hmk a1 hl.symm;simp only[zaJ,zar];exact this
 ·refine a2.mono fun b hb=>?_;rw[zar,zar];exact zac _ (by rw[hb];simp)
theorem qhS {P:Program}(w:World) (t ty e:TypeId) (sz:Nat) (ht:P.underlying t=some (.slice e)) (hs:(P.info? e).map (·.size)=some sz) (g sLen sCap:Nat) (a:Addr) (m c:Nat) (cur:List Value) (t':TypeId) (cs:List Value)
  (hg:w.heap[g]? =some (.cells cur.toArray t' (0,0))) (hn:cs.length=m*sz) (hsrc:∀j v,cs[j]? =some v→w.cell? (a.add j)=some v) (h1:∀v∈cs,v.oneCell'=true) (hroom:sLen+m≤sCap) (hfit:sLen*sz+cs.length≤cur.length):
  (Builtin.append_ #[t,t] ty #[.slice (some ⟨g,0,none⟩) sLen sCap,.slice (some a) m c]).run P w=.ok (.slice (some ⟨g,0,none⟩) (sLen+m) sCap) (w.setRow g (cur.take (sLen*sz)++cs++cur.drop (sLen*sz+cs.length)).toArray):=by
 obtain⟨i,hi,hiz⟩:=zaB.1 hs;have hfc:=run_firstCells_some (P:=P) w i.size m a m c cs (by rw[hiz];exact hn) hsrc;have hst:=run_storeCells_at P g (sLen*sz) t' cs 0 cur.toArray w hg (by simpa using hfit) h1;simp only[zbf]at hst;rw[hiz]at hfc;simp[Builtin.append_,run_underlying ht,sizeOf,typeInfo,hi,hiz,Builtin.lenOf,hroom,hfc,Addr.add_lit,hst]
theorem qeh {P:Program}{ops:Array Oper}{o:Oper}{a:Act}{w:World}{K:Act→World→Prop}{Q:Exit→Act→World→Prop}{E:Prop}
  (hg:o.guard=none) (d x:Operand) (dT sT:TypeId) (hop:o.op=Op.call { callee:=Callee.builtin Builtin.append,args:= #[d,x],argTypes:= #[dT,sT] })
  (v u:Value) (hd:a.eval d=v) (hx:a.eval x=u) {v':Value}{w':World}(hr:(Builtin.append_ #[dT,sT] o.type #[v,u]).run P w=.ok v' w') (hK:K (a.put o.dst v') w'):
  if Region.wanted o (yielded ops a.tmps)=true then Oper.wp P o a w K Q else E:=by
 have hw:Region.wanted o (yielded ops a.tmps)=true:=by simp[Region.wanted,hg]
 rw[if_pos hw];unfold Oper.wp;simp[execOp,hop,resolve,invoke,builtin,hd,hx,hr,Result.andThen];exact hK
def qnP (P:Program) (f te sz:Nat):Prop:=∀(w:World) (v:Value) (n i j:Nat) (xs:List Value),w.ownsRow 0 te sz v n xs→i≤j→j≤n→(∀u∈xs,u.oneCell'=true)→
 Calls P f #[v,.int .i64 i,.int .i64 j] w fun e w'=>∃v',e=.returned v'∧w'.ownsRow 0 te sz v' (i+(n-j)) (xs.take (i*sz)++xs.drop (j*sz))∧qbc (fun b=>v.ownBlock=some b) w w'∧v'.ownBlock=v.ownBlock
theorem qto {P:Program}{T:qpF}{f te:Nat}{fn:Func}{e:Ty}(hf:P.funcs[f]? =some fn) (hb:fn.body.isSome=true) (hname:(fn.name== "runtime.NumGoroutine")=false) (hw:qnP P f te e.size) (hmk:etM te=[]:=by rfl):
  qr.okT P T f ⟨[.own te e,.val (.int .i64),.val (.int .i64)],[.own te e],fun x=>if 0≤x.2.1∧x.2.1≤x.2.2.1∧x.2.2.1≤(x.1.length:Int)then some ((x.1.take x.2.1.toNat++x.1.drop x.2.2.1.toNat,()),())else none⟩:=by
 obtain⟨c,hc⟩:=Option.isSome_iff_exists.1 hb;refine⟨fun as w=>qcN hf hc hname as w,fun w F x y as g io hT hp hpre hn hy=>?_⟩;obtain⟨xs,i,j,⟨⟩⟩:=x;obtain⟨v1,r1,g1,g2,rfl,rfl,o1,v2,r2,rfl,h2,v3,r3,rfl,h3,rfl,rfl,rfl⟩:=hp;simp only at hy;split at hy;case isFalse=>cases hy
 rename_i hcond;obtain⟨c1,c2,c3⟩:=hcond;injection hy with hy;subst hy;obtain⟨rfl,_⟩:=qau.int h2;obtain⟨rfl,_⟩:=qau.int h3;simp only at o1 c1 c2 c3;obtain⟨cs1,w1,rfl,k1⟩:=q8.yx hmk o1;obtain⟨b,rfl,hj⟩:=qkT (Int.le_trans c1 c2) c3;obtain⟨a,rfl,hi⟩:=qkT c1 c2;simp only[zar]at hpre hn;have hF:∀b,F b→v1.ownBlock≠some b:=fun b hb h=>(hpre b (by rw[h];simp)).1 hb;refine(hw w v1 xs.length a b cs1 w1 hi hj k1.oneCell).mono ?_;rintro en w' ⟨v',rfl,a1,a2,a3⟩;have keep:∀b,F b→b<w.heap.size→qgn w F v1.ownBlock.toList [] v'.ownBlock.toList b∧b<w'.heap.size∧w'.heap[b]? =w.heap[b]? :=fun b hb hlt=>
  ⟨⟨.inl hb,fun hm=>hF b hb (by rw[←a3];exact qfy hm),by simp⟩,zaE hlt a2.size,a2.block b hlt (hF b hb)⟩
 refine⟨v',rfl,qr.Post.mk0 [v'] v'.ownBlock.toList rfl ?_ (fun b hb=>?_) ⟨v',[],_,[],rfl,by rw[zar],?_,rfl,rfl⟩ ⟨rfl,rfl⟩ ?_⟩
 ·cases v'.ownBlock<;>simp
 ·rw[zar,←a3];exact⟨.inl hb,qq8 a1 b (qfy hb)⟩
 ·have hk:=(k1.take a (Nat.le_trans hi hj)).append (k1.drop b);have hl:(xs.take a++xs.drop b).length=a+(xs.length-b):=by
   simp only[zag,zaf,zap];omega
  have:=(hk.mono fun x c h=>h.keep keep).own hmk a1 hl.symm;simp only[zaJ,zar];exact this
 ·refine a2.mono fun b hb=>?_;rw[zar,zar];rw[hb];simp
end Go.Vi
namespace Go.Vi
open Go.RowKit Go.Lib
def qpG:List Value→Nat→List Value→List Value
 |xs,_,[]=>xs
 |xs,o,v::r=>qpG (xs.set o v) (o+1) r
theorem qlv:(vs:List Value)→(o:Nat)→(xs:List Value)→(qpG xs o vs).length=xs.length
 |[],_,_=>rfl
 |v::r,o,xs=>by rw[qpG,qlv r];simp
theorem qnR:(vs:List Value)→(o:Nat)→(xs:List Value)→(k:Nat)→k<xs.length→(qpG xs o vs)[k]? =if o≤k∧k<o+vs.length then vs[k-o]? else xs[k]?
 |[],o,xs,k,_=>by rw[qpG,if_neg (by simp)]
 |v::r,o,xs,k,hk=>by
  rw[qpG,qnR r (o+1) _ k (by simpa using hk)];by_cases h1:o+1≤k∧k<o+1+r.length
  ·rw[if_pos h1,if_pos (by simp;omega),show k-o=(k-(o+1))+1 by omega];rfl
  ·rw[if_neg h1,List.getElem?_set];by_cases h2:o=k
   ·subst h2;rw[if_pos rfl,if_pos hk,if_pos (by simp)];simp
   ·rw[if_neg h2,if_neg (by simp;omega)]
theorem qhi {e:TypeId}{size g n cap:Nat}:(vs:List Value)→(o:Nat)→{w:World}→{xs:List Value}→w.ownsRow 0 e size (.slice (some ⟨g,0,none⟩) n cap) n xs→
  (w.setCells g o vs).ownsRow 0 e size (.slice (some ⟨g,0,none⟩) n cap) n (qpG xs o vs)∧qbc (fun b=>b∈[g]) w (w.setCells g o vs)
 |[],_,w,xs,h=>⟨h,qbc.refl _ _⟩
 |v::r,o,w,xs,h=>by
  obtain⟨h1,h2⟩:=h.stored o v;obtain⟨h3,h4⟩:=qhi r (o+1) h1;rw[World.setCells,qpG];exact⟨h3,((qbc.yw h2).mono fun k hk=>by injection hk with hk;subst hk;exact zai).trans h4⟩
theorem qkP {a b sz:Nat}(h:a<b):a*sz+sz≤b*sz:=by
 have:=zaq sz (show a+1≤b from h);rwa [zbc,Nat.one_mul]at this
theorem qrK {α:Type}{R:α→List Value→Prop}{sz:Nat}{xs:List α}{cells:List Value}(h:qcI R sz xs cells) {i j:Nat}(hi:i<xs.length) (hj:j<xs.length):
  qcI R sz ((xs.set i xs[j]).set j xs[i]) (qpG (qpG cells (i*sz) ((cells.drop (j*sz)).take sz)) (j*sz) ((cells.drop (i*sz)).take sz)):=by
 have hci:=qkP (sz:=sz) hi;have hcj:=qkP (sz:=sz) hj;have hl:=h.1;have lX:((cells.drop (i*sz)).take sz).length=sz:=by simp;omega
 have lY:((cells.drop (j*sz)).take sz).length=sz:=by simp;omega
 refine⟨by rw[qlv,qlv];simpa using hl,fun t x hx=>?_⟩;have ht:t<xs.length:=by
  have:=(zao.1 hx).1;simpa using this
 have hct:=qkP (sz:=sz) ht;have part:∀(m:Nat),m<xs.length→(∀k,k<sz→(qpG (qpG cells (i*sz) ((cells.drop (j*sz)).take sz)) (j*sz) ((cells.drop (i*sz)).take sz))[t*sz+k]? =cells[m*sz+k]?)→
   (((qpG (qpG cells (i*sz) ((cells.drop (j*sz)).take sz)) (j*sz) ((cells.drop (i*sz)).take sz)).drop (t*sz)).take sz)=(cells.drop (m*sz)).take sz:=fun m hm hk=>by
  refine List.ext_getElem? fun k=>?_;rw[zal,zal];by_cases hks:k<sz
  ·rw[if_pos hks,if_pos hks,zan,zan,hk k hks]
  ·rw[if_neg hks,if_neg hks]
 have get:∀k,k<sz→(qpG (qpG cells (i*sz) ((cells.drop (j*sz)).take sz)) (j*sz) ((cells.drop (i*sz)).take sz))[t*sz+k]? =if t=j then cells[i*sz+k]? else if t=i then cells[j*sz+k]? else cells[t*sz+k]? :=fun k hk=>by
  rw[qnR _ _ _ _ (by rw[qlv];omega),qnR _ _ _ _ (by omega),lX,lY];have away:∀m,m<xs.length→t≠m→¬(m*sz≤t*sz+k∧t*sz+k<m*sz+sz):=fun m hm hne hh=>by
   rcases Nat.lt_or_gt_of_ne hne with hlt|hgt
   ·have:=qkP (sz:=sz) hlt;omega
   ·have:=qkP (sz:=sz) hgt;omega
  by_cases e:t=j
  ·subst e;rw[if_pos ⟨by omega,by omega⟩,if_pos rfl,zal,if_pos (by omega),zan];congr 1;omega
  ·rw[if_neg (away j hj e),if_neg e];by_cases e2:t=i
   ·subst e2;rw[if_pos ⟨by omega,by omega⟩,if_pos rfl,zal,if_pos (by omega),zan];congr 1;omega
   ·rw[if_neg (away i hi e2),if_neg e2]
 by_cases e:t=j
 ·subst e;have:xs[i]=x:=by
   rw[List.getElem?_set,if_pos rfl,if_pos (by simpa using ht)]at hx;injection hx
  subst this;rw[part i hi fun k hk=>by rw[get k hk,if_pos rfl]];exact h.2 i _ (zaa hi)
 ·rw[List.getElem?_set,if_neg (fun hh=>e hh.symm)]at hx;by_cases e2:t=i
  ·subst e2;have:xs[j]=x:=by
    rw[List.getElem?_set,if_pos rfl,if_pos (by simpa using ht)]at hx;injection hx
   subst this;rw[part j hj fun k hk=>by rw[get k hk,if_neg e,if_pos rfl]];exact h.2 j _ (zaa hj)
  ·rw[List.getElem?_set,if_neg (fun hh=>e2 hh.symm)]at hx;rw[part t ht fun k hk=>by rw[get k hk,if_neg e,if_neg e2]];exact h.2 t x hx
theorem quh {P:Program}{w:World}{F:Nat→Prop}{et:Nat}{e:Ty}{xs:List e.den}{v:Value}{bs:List Nat}(gS:Bool) {ie:TypeInfo}(hie:P.info? et=some ie) (hsz:ie.size=e.size) (hagg:∀w,(isAgg et).run P w=.ok true w)
  (hR:qcd w F et e xs v bs) (hnF:∀b∈bs,¬F b) {i j:Int}(hi:inB i (qs xs)=true) (hj:inB j (qs xs)=true):
  ∃w',(Extern.ReflectliteSwapper.swap gS #[.int .i64 i,.int .i64 j,v,typeHandle P et]).run P w=.ok (.tuple #[]) w'∧qbc (fun b=>b∈bs) w w'∧qcd w' F et e (qmO xs i j) v bs:=by
 rw[qfR,qp]at hi hj;simp at hi hj;obtain⟨hm,cells,ho,hbs,hx⟩:=hR;have hch:qcI (Rep w F e) e.size xs cells:=⟨ho.1,hx⟩;rcases ho.2 with⟨_,h0⟩|⟨g,cap,cur,hv,_,hh,_⟩
 ·omega
 subst hv;obtain⟨a,rfl,ha⟩:=qkT hi.1 (Int.le_of_lt hi.2);obtain⟨b,rfl,hb⟩:=qkT hj.1 (Int.le_of_lt hj.2);have ha:a<xs.length:=by omega
 have hb:b<xs.length:=by omega
 have hca:=qkP (sz:=e.size) ha;have hcb:=qkP (sz:=e.size) hb;have hl:=hch.1;have one:=hch.oneCell;have cell:∀m,m<xs.length→∀k v,((cells.drop (m*e.size)).take e.size)[k]? =some v→w.cell? ⟨g,0+m*ie.size+k,none⟩=some v:=fun m hm k v hk=>by
  rw[zal]at hk;split at hk
  ·rename_i hks;rw[zan]at hk;have:=qkP (sz:=e.size) hm;rw[hsz,zaM,ho.cellAt _ (by omega),hk]
  ·cases hk
 have frz:∀m k,w.frozen? ⟨g,0+m*ie.size+k,none⟩=false:=fun m k=>ho.frozenAt _;have hrun:=run_swap_cells (P:=P) gS et ie hie hagg g 0 xs.length cap a b ha hb ((cells.drop (a*e.size)).take e.size) ((cells.drop (b*e.size)).take e.size) (by simp;omega) (by simp;omega)
  (fun v hv=>one v (List.mem_of_mem_drop (List.mem_of_mem_take hv))) (fun v hv=>one v (List.mem_of_mem_drop (List.mem_of_mem_take hv))) w (cell a ha) (cell b hb) (fun k _=>frz a k) (fun k _=>frz b k)
 obtain⟨o1,k1⟩:=qhi ((cells.drop (b*e.size)).take e.size) (0+a*ie.size) ho;obtain⟨o2,k2⟩:=qhi ((cells.drop (a*e.size)).take e.size) (0+b*ie.size) o1;have hbg:bs=[g]:=by rw[hbs];rfl
 refine⟨_,hrun,by rw[hbg];exact k1.trans k2,hm,?_⟩;have hsw:qmO xs (a:Int) (b:Int)=(xs.set a xs[b]).set b xs[a]:=by
  rw[qqA];simp only[zaJ,zaa ha,zaa hb]
 rw[hsw];have hc2:=qrK hch ha hb;have hk:=k1.trans k2;rw[hsz,zaM,zaM]at o2 hk⊢
 have hmono:=hc2.mono (R':=Rep ((w.setCells g (a*e.size) ((cells.drop (b*e.size)).take e.size)).setCells g (b*e.size) ((cells.drop (a*e.size)).take e.size)) F e) (fun x c hr=>hr.keep fun q hq hlt=>⟨hq,zaE hlt hk.size,hk.block q hlt fun hm=>hnF q (by rw[hbg];exact hm) hq⟩);refine⟨_,?_,hbs,hmono.2⟩;rw[show((xs.set a xs[b]).set b xs[a]).length=xs.length by simp];exact o2
theorem qjv {fl fs:Nat}{caps:Array Value}{v h:Value}:qeb (.agg #[.func (.func fl) #[] caps,.func (.func fs) #[] #[v,h]])=v:=rfl
theorem qgB {fl fs:Nat}{caps:Array Value}:qeb (.agg #[.func (.func fl) #[] caps,.func (.func fs) #[] #[]])=.slice none 0 0:=rfl
theorem quj {P:Program}{w:World}{F:Nat→Prop}{et:Nat}{e:Ty}{φ:List e.den→Int→Int→Option Bool}{v:Value}{fl fs:Nat}{caps:Array Value}(hen:∀as w',(callFunc fl as).run P w'=.ok (.enter fl as) w') (gS:Bool)
  (hx:∀args W,(callFunc fs args).run P W=((Extern.ReflectliteSwapper.swap gS args).run P W).andThen fun v w'=>.ok (.value v) w') {ie:TypeInfo}(hie:P.info? et=some ie) (hsz:ie.size=e.size) (hagg:∀w,(isAgg et).run P w=.ok true w)
  (hless:∀(w':World) (F':Nat→Prop) (xs:List e.den),(∀b,F b→b<w.heap.size→F' b∧b<w'.heap.size∧w'.heap[b]? =w.heap[b]?)→qcd w' F' et e xs v v.ownBlock.toList→(∀b∈v.ownBlock.toList,¬F' b)→
   ∀i j r,φ xs i j=some r→Calls P fl (#[.int .i64 i,.int .i64 j]++caps) w' fun ev w''=>ev=.returned (.bool r)∧qbc (fun _=>False) w' w''):
  qjL P w F et e φ (.agg #[.func (.func fl) #[] caps,.func (.func fs) #[] #[v,typeHandle P et]]):=by
 refine⟨fl,caps,fs,#[v,typeHandle P et],rfl,hen,fun w' F' xs hk hR hn=>?_⟩;rw[qjv]at hR hn⊢
 refine⟨hless w' F' xs hk hR hn,fun i j hi hj=>?_⟩;obtain⟨w'',h1,h2,h3⟩:=quh gS hie hsz hagg hR hn hi hj;refine⟨w'',?_,h2,h3⟩;rw[hx];show((Extern.ReflectliteSwapper.swap gS #[.int .i64 i,.int .i64 j,v,typeHandle P et]).run P w').andThen _=_;rw[h1];rfl
theorem qry {P:Program}{w:World}{F:Nat→Prop}{et:Nat}{e:Ty}{fl fs:Nat}{caps:Array Value}(hen:∀as w',(callFunc fl as).run P w'=.ok (.enter fl as) w'):
  qjL P w F et e (fun _ _ _=>none) (.agg #[.func (.func fl) #[] caps,.func (.func fs) #[] #[]]):=by
 refine⟨fl,caps,fs,#[],rfl,hen,fun w' F' xs hk hR hn=>⟨fun i j r h=>(by cases h),fun i j hi hj=>?_⟩⟩;rw[qgB]at hR;obtain⟨_,cells,ho,_⟩:=hR;rcases ho.2 with⟨_,h0⟩|⟨g,cap,cur,hv,_⟩
 ·have:xs=[]:=zaV h0;subst this;rw[qfR,qp]at hi;simp at hi;omega
 ·cases hv
noncomputable def qkW {e:Ty}(G:(Int×(Int×(List e.den×Unit)))→Option ((Bool×Unit)×Unit)) (xs:List e.den) (i j:Int):Option Bool:=
 bif inB i (qs xs)&&inB j (qs xs)then qhI (fun y=>y.1.1) (G (i,(j,(xs,()))))else none
theorem qwi {P:Program}{T:qpF}{fl et:Nat}{e:Ty}{G:(Int×(Int×(List e.den×Unit)))→Option ((Bool×Unit)×Unit)}(hC:qr.okT P T fl ⟨[.val (.int .i64),.val (.int .i64),.rd (.slice e)],[.val .bool],G⟩)
  {w:World}{F:Nat→Prop}{xs:List e.den}{v:Value}{b:Nat}(hT:qen T w F) (hb:F b) (hlt:b<w.heap.size) (hc:w.cell? ⟨b,0,none⟩=some v) (hR:qcd w F et e xs v v.ownBlock.toList) (hn:∀b∈v.ownBlock.toList,¬F b)
  {i j:Int}{r:Bool}(hr:qkW G xs i j=some r):Calls P fl (#[.int .i64 i,.int .i64 j]++ #[ptr b 0]) w fun ev w''=>ev=.returned (.bool r)∧qbc (fun _=>False) w w'':=by
 unfold qkW at hr;cases hij:inB i (qs xs)&&inB j (qs xs)with
 |false=>rw[hij]at hr;cases hr
 |true=>
  rw[hij]at hr;simp only[cond_true,qdR,zaB]at hr;obtain⟨y,hy,rfl⟩:=hr;rw[zad,qfR,qfR,qp]at hij;simp at hij;have hmax:xs.length≤maxLen:=by
   obtain⟨_,cells,ho,_⟩:=hR;rcases ho.2 with⟨_,h0⟩|⟨g,cap,cur,_,_,_,h1,h2,_⟩
   ·omega
   ·omega
  unfold maxLen at hmax;have hi:qau w (fun k=>F k∨k∈v.ownBlock.toList) (.int .i64) i (.int .i64 i):=qau.ofInt _ _ (by simp[IntKind.has,IntKind.min,IntKind.max,IntKind.signed,IntKind.bits];omega);have hj:qau w (fun k=>F k∨k∈v.ownBlock.toList) (.int .i64) j (.int .i64 j):=qau.ofInt _ _ (by simp[IntKind.has,IntKind.min,IntKind.max,IntKind.signed,IntKind.bits];omega);have hrow:qau w (fun k=>F k∨k∈v.ownBlock.toList) (.slice e) xs v:=q8.rep hR.own;have hcells:qfL w ⟨b,0,none⟩ [v]:=fun k z hk=>by
   cases k with
   |zero=>simp at hk;subst hk;simpa[Addr.add]using hc
   |succ k=>simp at hk
  have hval:v.cells.toList=[v]:=by
   obtain⟨_,cells,ho,_⟩:=hR;rcases ho.2 with⟨h0,_⟩|⟨g,cap,cur,h0,_⟩<;>(rw[h0];rfl)
  have hp:qaq P w (fun k=>F k∨k∈v.ownBlock.toList) [.val (.int .i64),.val (.int .i64),.rd (.slice e)] (i,(j,(xs,()))) [.int .i64 i,.int .i64 j,ptr b 0] [] []:=
   ⟨_,_,rfl,hi,_,_,rfl,hj,⟨b,0,none⟩,[v],[],rfl,.inl hb,hlt,hcells,by have:=hrow.1;rwa [hval]at this,rfl,rfl,rfl⟩
  refine(hC.2 w _ (i,(j,(xs,()))) y _ [] [] (hT.keep fun k hk hl=>⟨.inl hk,hl,rfl⟩) hp (fun k hk=>by cases hk) zaH hy).mono ?_;rintro ev w'' ⟨v',rfl,vs,bs,js,rfl,_,_,hres,_,hk⟩;obtain⟨z,rr,b1,b2,rfl,_,h3,h4,_⟩:=hres;have h4:rr=[]:=h4;subst h4;have hz:z=.bool y.1.1:=(qau.bool h3.2);exact⟨by rw[hz];rfl,hk.mono fun k hk=>by cases hk⟩
end Go.Vi
namespace Go.Vi
open Go.RowKit
theorem zip_at {α β:Type}{xs:List α}{ys:List β}{j:Nat}{p:α×β}(h:(xs.zip ys)[j]? =some p):xs[j]? =some p.1∧ys[j]? =some p.2:=by
 obtain⟨h1,h2⟩:=zao.1 h;rw[List.length_zip]at h1;rw[List.getElem_zip]at h2;rw[←h2];exact⟨zaa (by omega),zaa (by omega)⟩
def MR (w:World) (F:Nat→Prop) (m:Msk) (e:Ty) (p:e.den×List Nat) (cs:List Value):Prop:=qcP w F (bcM m (0,0) e p.1 0) cs p.2
theorem q8.yB {w:World}{F:Nat→Prop}{et:Nat}{e:Ty}{xs:List e.den}{v:Value}{bs:List Nat}(h:q8 w F et e xs v bs):
  ∃(ps:List (e.den×List Nat)) (cells:List Value),xs=ps.map (·.1)∧w.ownsRow 0 (etB et) e.size v xs.length cells∧bs=v.ownBlock.toList++(ps.map (·.2)).flatten∧qcI (MR w F (etM et) e) e.size ps cells∧∀u∈cells,u.oneCell'=true:=by
 obtain⟨cells,bss,h1,h2,h3,h4⟩:=h;have e1:(xs.zip bss).map (·.1)=xs:=List.map_fst_zip (by omega);have e2:(xs.zip bss).map (·.2)=bss:=List.map_snd_zip (by omega);refine⟨xs.zip bss,cells,e1.symm,h1,by rw[e2];exact h3,⟨by rw[List.length_zip,h2,Nat.min_self];exact h1.1,fun j p hj=>?_⟩,q8.yq h1.1 h2 h4⟩;obtain⟨q1,q2⟩:=zip_at hj;have:=h4 j p.1 p.2 q1 q2;rwa [qcc]at this
theorem qcI.rowM {w:World}{F:Nat→Prop}{et:Nat}{e:Ty}{ps:List (e.den×List Nat)}{v:Value}{cells:List Value}{n:Nat}(h:qcI (MR w F (etM et) e) e.size ps cells) (ho:w.ownsRow 0 (etB et) e.size v n cells) (hn:n=ps.length):
  q8 w F et e (ps.map (·.1)) v (v.ownBlock.toList++(ps.map (·.2)).flatten):=by
 subst hn;refine⟨cells,ps.map (·.2),by rw[List.length_map];exact ho,by simp,rfl,fun i x b hi hb=>?_⟩;rw[List.getElem?_map]at hi hb;cases hp:ps[i]? with
 |none=>rw[hp]at hi;cases hi
 |some p=>
  rw[hp]at hi hb;injection hi with hi;injection hb with hb;subst hi;subst hb;rw[qcc];exact h.2 i p hp
theorem qru {P:Program}{T:qpF}{f te bytes:Nat}{fn:Func}{e:Ty}(hf:P.funcs[f]? =some fn) (hb:fn.body.isSome=true) (hname:(fn.name== "runtime.NumGoroutine")=false) (hw:qnS P f (etB te) e.size bytes):
  qr.okT P T f ⟨[.own te e,.val (.int .i64),.own te e],[.own te e],fun x=>if 0≤x.2.1∧x.2.1≤(x.1.length:Int)∧(x.1.length+x.2.2.1.length)*bytes≤140737488355328 then some ((x.1.take x.2.1.toNat++x.2.2.1++x.1.drop x.2.1.toNat,()),())else none⟩:=by
 obtain⟨c,hc⟩:=Option.isSome_iff_exists.1 hb;refine⟨fun as w=>qcN hf hc hname as w,fun w F x y as g io hT hp hpre hn hy=>?_⟩;obtain⟨xs,i,vs,⟨⟩⟩:=x;obtain⟨v1,r1,g1,g2,rfl,rfl,o1,v2,r2,rfl,h2,v3,r3,g3,g4,rfl,rfl,o3,rfl,rfl,rfl⟩:=hp;simp only at hy;split at hy;case isFalse=>cases hy
 rename_i hcond;obtain⟨c1,c2,c3⟩:=hcond;injection hy with hy;subst hy;obtain⟨rfl,_⟩:=qau.int h2;simp only at o1 o3 c1 c2 c3;obtain⟨p1,cs1,e1,w1,rfl,k1,u1⟩:=q8.yB o1;obtain⟨p3,cs3,e3,w3,rfl,k3,u3⟩:=q8.yB o3;obtain⟨j,rfl,hj⟩:=qkT c1 c2;simp only[zar]at hpre hn;have hl1:xs.length=p1.length:=by rw[e1,List.length_map]
 have hl3:vs.length=p3.length:=by rw[e3,List.length_map]
 have hn1:=zah.1 hn;have hna:=zah.1 hn1.1;have hnb:=zah.1 hn1.2.1;have hne:∀b,v1.ownBlock=some b→v3.ownBlock≠some b:=fun b h1 h3=>by
  refine hn1.2.2 b ?_ b ?_ rfl
  ·exact zac _ (by rw[h1];simp)
  ·exact zac _ (by rw[h3];simp)
 have hF:∀b,F b→v1.ownBlock≠some b:=fun b hb h=>(hpre b (zac _ (zac _ (by rw[h];simp)))).1 hb;refine(hw w v1 v3 xs.length vs.length j cs1 cs3 w1 w3 hne hj c3 u1 u3).mono ?_;rintro en w' ⟨v',rfl,a1,a2,a3⟩;let pz:=p1.take j++p3++p1.drop j;have hperm:(pz.map (·.2)).flatten.Perm ((p1.map (·.2)).flatten++(p3.map (·.2)).flatten):=by
  have q:(p1.map (·.2)).flatten=((p1.take j).map (·.2)).flatten++((p1.drop j).map (·.2)).flatten:=by
   rw[←List.flatten_append,←za3,zaK]
  rw[q];show((p1.take j++p3++p1.drop j).map (·.2)).flatten.Perm _;rw[za3,za3,List.flatten_append,List.flatten_append,zaC,zaC];exact(List.perm_append_comm).append_left _
 have inner:∀b,b∈(pz.map (·.2)).flatten→(b∈(p1.map (·.2)).flatten∨b∈(p3.map (·.2)).flatten)∧b<w.heap.size∧v1.ownBlock≠some b:=fun b hb=>by
  have hb:=zaj.1 (hperm.mem_iff.1 hb);refine⟨hb,?_⟩;rcases hb with hb|hb
  ·refine⟨(hpre b (zac _ (zab _ hb))).2,fun h=>?_⟩;exact hna.2.2 b (by rw[h];simp) b hb rfl
  ·refine⟨(hpre b (zab _ (zab _ hb))).2,fun h=>?_⟩;exact hn1.2.2 b (zac _ (by rw[h];simp)) b (zab _ hb) rfl
 have outer:∀b,b∈v'.ownBlock.toList→(v1.ownBlock=some b∨w.heap.size≤b)∧b<w'.heap.size:=fun b hb=>by
  have e:=qfy hb;exact⟨a3 b e,qq8 a1 b e⟩
 have hnz:(pz.map (·.2)).flatten.Nodup:=by
  rw[hperm.nodup_iff];refine zah.2 ⟨hna.2.1,hnb.2.1,fun b hb b' hb'=>hn1.2.2 b (zab _ hb) b' (zab _ hb')⟩
 have keep:∀b,F b→b<w.heap.size→qgn w F ((v1.ownBlock.toList++(p1.map (·.2)).flatten)++(v3.ownBlock.toList++(p3.map (·.2)).flatten)) [] (v'.ownBlock.toList++(pz.map (·.2)).flatten) b∧b<w'.heap.size∧w'.heap[b]? =w.heap[b]? :=fun b hb hlt=>by
  refine⟨⟨.inl hb,fun hm=>?_,by simp⟩,zaE hlt a2.size,a2.block b hlt (hF b hb)⟩;rcases zaj.1 hm with hm|hm
  ·rcases(outer b hm).1 with h|h
   ·exact hF b hb h
   ·omega
  ·rcases(inner b hm).1 with h|h
   ·exact(hpre b (zac _ (zab _ h))).1 hb
   ·exact(hpre b (zab _ (zab _ h))).1 hb
 refine⟨v',rfl,qr.Post.mk0 [v'] (v'.ownBlock.toList++(pz.map (·.2)).flatten) rfl ?_ (fun b hb=>?_) ⟨v',[],_,[],rfl,by rw[zar],?_,rfl,rfl⟩ ⟨rfl,rfl⟩ ?_⟩
 ·refine zah.2 ⟨by cases v'.ownBlock<;>simp,hnz,fun b hb b' hb' e=>?_⟩;subst e;obtain⟨_,q2,q3⟩:=inner b hb';rcases(outer b hb).1 with h|h
  ·exact q3 h
  ·omega
 ·rw[zar];rcases zaj.1 hb with hb|hb
  ·obtain⟨h1,h2⟩:=outer b hb;exact⟨h1.imp (fun h=>zac _ (zac _ (by rw[h];simp))) id,h2⟩
  ·obtain⟨q1,q2,_⟩:=inner b hb;refine⟨.inl ?_,zaE q2 a2.size⟩;rcases q1 with q1|q1
   ·exact zac _ (zab _ q1)
   ·exact zab _ (zab _ q1)
 ·have hk:=((k1.take j (by omega)).append k3).append (k1.drop j);have hl:pz.length=xs.length+vs.length:=by
   show(p1.take j++p3++p1.drop j).length=_;simp only[zag,zaf,zap];omega
  have hx:(xs.take j++vs++xs.drop j)=pz.map (·.1):=by
   show _=(p1.take j++p3++p1.drop j).map (·.1);rw[za3,za3,List.map_take,List.map_drop,←e1,←e3]
  have hk2:qcI (MR w' (qgn w F ((v1.ownBlock.toList++(p1.map (·.2)).flatten)++(v3.ownBlock.toList++(p3.map (·.2)).flatten)) [] (v'.ownBlock.toList++(pz.map (·.2)).flatten)) (etM te) e) e.size pz (cs1.take (j*e.size)++cs3++cs1.drop (j*e.size)):=⟨hk.1,fun i p hi=>by
   refine qcP.keep keep (fun b hb hlt=>?_) (hk.2 i p hi);exact a2.block b hlt (inner b (List.mem_flatten.2 ⟨p.2,zaR (zaU hi),hb⟩)).2.2⟩
  have:=hk2.rowM a1 hl.symm;rw[←hx]at this;simp only[zaJ,zar];exact this
 ·refine a2.mono fun b hb=>?_;rw[zar,zar];exact zac _ (zac _ (by rw[hb];simp))
theorem qrR {P:Program}{T:qpF}{f te:Nat}{fn:Func}{e:Ty}(hf:P.funcs[f]? =some fn) (hb:fn.body.isSome=true) (hname:(fn.name== "runtime.NumGoroutine")=false) (hw:qnP P f (etB te) e.size):
  qr.okT P T f ⟨[.own te e,.val (.int .i64),.val (.int .i64)],[.own te e],fun x=>if 0≤x.2.1∧x.2.1≤x.2.2.1∧x.2.2.1≤(x.1.length:Int)then some ((x.1.take x.2.1.toNat++x.1.drop x.2.2.1.toNat,()),())else none⟩:=by
 obtain⟨c,hc⟩:=Option.isSome_iff_exists.1 hb;refine⟨fun as w=>qcN hf hc hname as w,fun w F x y as g io hT hp hpre hn hy=>?_⟩;obtain⟨xs,i,j,⟨⟩⟩:=x;obtain⟨v1,r1,g1,g2,rfl,rfl,o1,v2,r2,rfl,h2,v3,r3,rfl,h3,rfl,rfl,rfl⟩:=hp;simp only at hy;split at hy;case isFalse=>cases hy
 rename_i hcond;obtain⟨c1,c2,c3⟩:=hcond;injection hy with hy;subst hy;obtain⟨rfl,_⟩:=qau.int h2;obtain⟨rfl,_⟩:=qau.int h3;simp only at o1 c1 c2 c3;obtain⟨p1,cs1,e1,w1,rfl,k1,u1⟩:=q8.yB o1;obtain⟨b,rfl,hj⟩:=qkT (Int.le_trans c1 c2) c3;obtain⟨a,rfl,hi⟩:=qkT c1 c2;simp only[zar]at hpre hn;have hl1:xs.length=p1.length:=by rw[e1,List.length_map]
 have hna:=zah.1 hn;have hF:∀b,F b→v1.ownBlock≠some b:=fun b hb h=>(hpre b (zac _ (by rw[h];simp))).1 hb;refine(hw w v1 xs.length a b cs1 w1 hi hj u1).mono ?_;rintro en w' ⟨v',rfl,a1,a2,a3⟩;let pz:=p1.take a++p1.drop b;have hsub:(pz.map (·.2)).flatten.Sublist (p1.map (·.2)).flatten:=by
  have q:(p1.map (·.2)).flatten=((p1.take a).map (·.2)).flatten++((p1.drop a).map (·.2)).flatten:=by
   rw[←List.flatten_append,←za3,zaK]
  rw[q];show((p1.take a++p1.drop b).map (·.2)).flatten.Sublist _;rw[za3,List.flatten_append];refine(List.Sublist.refl _).append ?_;have q2:p1.drop b=(p1.drop a).drop (b-a):=by rw[List.drop_drop];congr 1;omega
  rw[q2];have q3:((p1.drop a).map (·.2)).flatten=(((p1.drop a).take (b-a)).map (·.2)).flatten++(((p1.drop a).drop (b-a)).map (·.2)).flatten:=by
   rw[←List.flatten_append,←za3,zaK]
  rw[q3];exact List.sublist_append_right _ _
 have inner:∀k,k∈(pz.map (·.2)).flatten→k∈(p1.map (·.2)).flatten∧k<w.heap.size∧v1.ownBlock≠some k:=fun k hk=>by
  have hk:=hsub.subset hk;refine⟨hk,(hpre k (zab _ hk)).2,fun h=>?_⟩;exact hna.2.2 k (by rw[h];simp) k hk rfl
 have keep:∀k,F k→k<w.heap.size→qgn w F (v1.ownBlock.toList++(p1.map (·.2)).flatten) [] (v'.ownBlock.toList++(pz.map (·.2)).flatten) k∧k<w'.heap.size∧w'.heap[k]? =w.heap[k]? :=fun k hk hlt=>by
  refine⟨⟨.inl hk,fun hm=>?_,by simp⟩,zaE hlt a2.size,a2.block k hlt (hF k hk)⟩;rcases zaj.1 hm with hm|hm
  ·exact hF k hk (by rw[←a3];exact qfy hm)
  ·exact(hpre k (zab _ (inner k hm).1)).1 hk
 refine⟨v',rfl,qr.Post.mk0 [v'] (v'.ownBlock.toList++(pz.map (·.2)).flatten) rfl ?_ (fun k hk=>?_) ⟨v',[],_,[],rfl,by rw[zar],?_,rfl,rfl⟩ ⟨rfl,rfl⟩ ?_⟩
 ·refine zah.2 ⟨by cases v'.ownBlock<;>simp,hna.2.1.sublist hsub,fun k hk k' hk' e=>?_⟩;subst e;exact(inner k hk').2.2 (by rw[←a3];exact qfy hk)
 ·rw[zar];rcases zaj.1 hk with hk|hk
  ·rw[a3]at hk;exact⟨.inl (zac _ hk),qq8 a1 k (by rw[a3];exact qfy hk)⟩
  ·obtain⟨q1,q2,_⟩:=inner k hk;exact⟨.inl (zab _ q1),zaE q2 a2.size⟩
 ·have hk:=(k1.take a (by omega)).append (k1.drop b);have hl:pz.length=a+(xs.length-b):=by
   show(p1.take a++p1.drop b).length=_;simp only[zag,zaf,zap];omega
  have hx:(xs.take a++xs.drop b)=pz.map (·.1):=by
   show _=(p1.take a++p1.drop b).map (·.1);rw[za3,List.map_take,List.map_drop,←e1]
  have hk2:qcI (MR w' (qgn w F (v1.ownBlock.toList++(p1.map (·.2)).flatten) [] (v'.ownBlock.toList++(pz.map (·.2)).flatten)) (etM te) e) e.size pz (cs1.take (a*e.size)++cs1.drop (b*e.size)):=⟨hk.1,fun i p hi=>by
   refine qcP.keep keep (fun k hk hlt=>?_) (hk.2 i p hi);exact a2.block k hlt (inner k (List.mem_flatten.2 ⟨p.2,zaR (zaU hi),hk⟩)).2.2⟩
  have:=hk2.rowM a1 hl.symm;rw[←hx]at this;simp only[zaJ,zar];exact this
 ·refine a2.mono fun k hk=>?_;rw[zar,zar];exact zac _ (by rw[hk];simp)
end Go.Vi
namespace Go.Vi
theorem qca {S R:Type}(n:Nat) (step:(S→Option R)→S→Option R) (s:S):qaf (n+1) step s=step (qaf n step) s:=rfl
theorem qfs {S R:Type}{step:(S→Option R)→S→Option R}(m:S→Nat) (I:S→Prop) (out:S→R) (h:∀(ih:S→Option R) (s:S),I s→(∀s',I s'→m s'<m s→ih s'=some (out s'))→step ih s=some (out s)):∀(n:Nat) (s:S),I s→m s<n→qaf n step s=some (out s)
 |0,s,_,hm=>absurd hm (Nat.not_lt_zero _)
 |n+1,s,hI,hm=>h (qaf n step) s hI fun s' hI' hm'=>qfs m I out h n s' hI' (by omega)
theorem qg {α:Type}(x:α):qx (some x)=true:=by rw[qgL];rfl
theorem qj {α:Type}(x d:α):qi (some x) d=x:=by rw[qjz];rfl
theorem qfe {z:Int}(h1: -9223372036854775808≤z) (h2:z<9223372036854775808):IntKind.wrap .i64 z=z:=by
 simp[IntKind.wrap,IntKind.signed,IntKind.bits];split<;>omega
theorem qV {α:Type}{c:Bool}{a b:α}(h:c=true):(bif c then a else b)=a:=by rw[h];rfl
theorem qE {α:Type}{c:Bool}{a b:α}(h:c=false):(bif c then a else b)=b:=by rw[h];rfl
theorem qaQ (x y:Int):eqI x y=decide (x=y):=by rw[qi8];rfl
theorem qaC (x y:Int):neI x y= !decide (x=y):=by rw[qmv];rfl
theorem qmC (x y:List UInt8):eqS x y=decide (x=y):=by rw[qp4];by_cases h:x=y<;>simp[h]
theorem quI {α:Type}(c:Bool) (a b:Option α):(bif c then a else b)=if c=true then a else b:=by cases c<;>rfl
theorem qvj (c d:Bool):(bif c then c else d)=(c||d):=by cases c<;>rfl
theorem condB (c a b:Bool):(bif c then a else b)=((c&&a)||(!c&&b)):=by cases c<;>simp
theorem qot {α:Type}{xs:List α}{i:Nat}{d x:α}(h:xs[i]? =some x):qh xs (i:Int) d=x:=by
 rw[qil];simp[List.getD,h]
theorem qpY {i n:Nat}(h:i<n):inB (i:Int) (n:Int)=true:=by
 rw[qfR];simp;omega
theorem qqB:(t:Ty)→(x:t.den)→1≤t.bulk x
 |.int _,_=>zay _
 |.bool,_=>zay _
 |.str,_=>Nat.le_add_left _ _
 |.unit,_=>zay _
 |.err,_=>zay _
 |.opt _,_=>zay _
 |.map _ _,_=>zay _
 |.pair a b,x=>by have:=qqB a x.1;show 1≤a.bulk x.1+b.bulk x.2;omega
 |.slice e,xs=>Nat.le_add_left _ _
 |.arr _ e,xs=>Nat.le_add_left _ _
theorem qdq (e:Ty):(xs:List e.den)→xs.length+1≤(Ty.slice e).bulk xs
 |[]=>zay _
 |x::xs=>by
  have:=qdq e xs;have h1:=qqB e x;simp only[Ty.bulk,zaZ,List.sum_cons,zba]at this⊢
  omega
end Go.Vi
namespace Go.Vi
theorem qdh {S R:Type}{step:(S→Option R)→S→Option R}{s0:S}(st:Nat→S) (n:Nat) (r:R) (h0:st 0=s0) (hs:∀i,i<n→∀ih,step ih (st i)=ih (st (i+1))) (he:∀ih,step ih (st n)=some r) {N:Nat}(hN:n<N):qaf N step s0=some r:=by
 rw[←h0];have:∀k i,i+k=n→∀M,k<M→qaf M step (st i)=some r:=by
  intro k;induction k with
  |zero=>
   intro i hi M hM;obtain⟨M,rfl⟩:∃m,M=m+1:=⟨M-1,by omega⟩;rw[qca,show i=n by omega];exact he _
  |succ k ih=>
   intro i hi M hM;obtain⟨M,rfl⟩:∃m,M=m+1:=⟨M-1,by omega⟩;rw[qca,hs i (by omega)];exact ih (i+1) (by omega) M (by omega)
 exact this n 0 (by omega) N hN
theorem qml {S R:Type}{step:(S→Option R)→S→Option R}{s0:S}(st:Nat→S) (n:Nat) (r:Option R) (h0:st 0=s0) (hs:∀i,i<n→∀ih,step ih (st i)=ih (st (i+1))) (he:∀ih,step ih (st n)=r) {N:Nat}(hN:n<N):qaf N step s0=r:=by
 rw[←h0];have:∀k i,i+k=n→∀M,k<M→qaf M step (st i)=r:=by
  intro k;induction k with
  |zero=>
   intro i hi M hM;obtain⟨M,rfl⟩:∃m,M=m+1:=⟨M-1,by omega⟩;rw[qca,show i=n by omega];exact he _
  |succ k ih=>
   intro i hi M hM;obtain⟨M,rfl⟩:∃m,M=m+1:=⟨M-1,by omega⟩;rw[qca,hs i (by omega)];exact ih (i+1) (by omega) M (by omega)
 exact this n 0 (by omega) N hN
theorem qbD (x y:Int):ltI x y=decide (x<y):=qbz x y
theorem qdX (x y:Int):leI x y=decide (x≤y):=qbQ x y
theorem qfH (i n:Int):inB i n=decide (0≤i∧i<n):=by rw[qfR];simp
theorem qsr (l h n:Int):inS l h n=decide (0≤l∧l≤h∧h≤n):=by rw[qoo];simp
theorem qay {x y:Int}(h1: -9223372036854775808≤x+y) (h2:x+y<9223372036854775808):qQ .i64 x y=x+y:=by rw[qjJ,qfe h1 h2]
theorem qas {x y:Int}(h1: -9223372036854775808≤x-y) (h2:x-y<9223372036854775808):qR .i64 x y=x-y:=by rw[qiq,qfe h1 h2]
theorem qpL {x:Int}(h1: -9223372036854775808≤x) (h2:x<9223372036854775808):qbI .i64 x=x:=by rw[qfP,qfe h1 h2]
theorem qan {i:Nat}(h:i<4611686018427387904):qQ .i64 (i:Int) 1=((i+1:Nat):Int):=by
 rw[qjJ,qfe (by omega) (by omega)];omega
theorem qbK {α:Type}{xs:List α}{i:Nat}(h:i<xs.length):ltI (i:Int) (qs xs)=true:=by rw[qbz,qp];simp;omega
theorem qbs {α:Type}{xs:List α}{i:Nat}(h:¬i<xs.length):ltI (i:Int) (qs xs)=false:=by rw[qbz,qp];simp;omega
theorem qai {α:Type}{xs:List α}{i:Nat}(h:i<xs.length):inB (i:Int) (qs xs)=true:=by rw[qp];exact qpY h
theorem qnh {α:Type}{xs:List α}{i:Nat}(h:i<xs.length):xs.drop i=xs[i]::xs.drop (i+1):=zaO h
theorem qb2 {α:Type}{xs:List α}{i:Nat}(h:i<xs.length):xs.take (i+1)=xs.take i++[xs[i]]:=by rw[List.take_succ_eq_append_getElem h]
theorem qY {α:Type}{xs:List α}{i:Nat}(d:α) (h:i<xs.length):qh xs (i:Int) d=xs[i]:=qot (zaa h)
theorem qcx {α β:Type}{xs:List α}{ys:List β}{b:Nat}(h:(xs.length+ys.length)*b≤140737488355328):qcm (qs xs) (qs ys) b=true:=by
 rw[qhZ,qp,qp];refine decide_eq_true ?_;have:(((xs.length+ys.length)*b:Nat):Int)≤140737488355328:=by omega
 rwa [Int.natCast_mul,Int.natCast_add]at this
theorem qqV {α:Type}(xs:List α) (i:Nat):qbq xs 0 (i:Int)=xs.take i:=by
 rw[qd3];simp
theorem qv8 (n:Int):IntKind.wrap .u8 n=n%256:=by simp[IntKind.wrap,IntKind.signed,IntKind.bits]
theorem qqT (n:Int):IntKind.wrap .u64 n=n%18446744073709551616:=by simp[IntKind.wrap,IntKind.signed,IntKind.bits]
theorem qfQ {n:Int}(h1:0≤n) (h2:n<18446744073709551616):IntKind.wrap .u64 n=n:=by rw[qqT];omega
theorem qh6 {α β:Type}(p:α×β) (xs:List (α×β)) (k:α) (d:β):qkQ (p::xs) k d=open Classical in if p.1=k then p.2 else qkQ xs k d:=by
 rw[qf0,qf0];have:qfa (p::xs) k=open Classical in if p.1=k then 0 else qfa xs k+1:=by
  unfold qfa;rw[List.findIdx_cons];by_cases h:p.1=k<;>simp[h]
 rw[this];by_cases h:p.1=k<;>simp[h]
theorem qum {α β:Type}(k:α) (d:β):qkQ ([]:List (α×β)) k d=d:=by rw[qf0];rfl
theorem qqK {α β:Type}(k:α) (v:β):qnd ([]:List (α×β)) k v=[(k,v)]:=by rw[qis];rfl
theorem qoW {α β:Type}(p:α×β) (xs:List (α×β)) (k:α) (v:β):qnd (p::xs) k v=open Classical in if p.1=k then(p.1,v)::xs else p::qnd xs k v:=by
 rw[qis,qis];have:qfa (p::xs) k=open Classical in if p.1=k then 0 else qfa xs k+1:=by
  unfold qfa;rw[List.findIdx_cons];by_cases h:p.1=k<;>simp[h]
 rw[this];by_cases h:p.1=k
 ·simp[h,qro]
 ·simp only[h,if_false,zba,Nat.add_lt_add_iff_right];by_cases h2:qfa xs k<xs.length
  ·simp only[h2,if_true,qro,List.getElem?_cons_succ,zaa h2,List.set_cons_succ]
  ·simp[h2]
theorem qth {α β:Type}(xs:List (α×β)) (k:α) (v:β) (k':α) (d:β):qkQ (qnd xs k v) k' d=open Classical in if k=k' then v else qkQ xs k' d:=by
 induction xs with
 |nil=>rw[qqK,qh6]
 |cons p r ih=>
  rw[qoW];by_cases h:p.1=k
  ·rw[if_pos h,qh6,qh6];by_cases h2:k=k'
   ·simp[h,h2]
   ·simp[h,h2]
  ·rw[if_neg h,qh6,qh6,ih];by_cases h2:p.1=k'
   ·have:¬k=k':=fun e=>h (h2.trans e.symm);simp[h2,this]
   ·simp[h2]
def qae {E:Type}(g:Nat→Option E):Nat→Option E
 |0=>none
 |n+1=>match qae g n with
  |some e=>some e
  |none=>g n
theorem qbe {E:Type}{g:Nat→Option E}: {n:Nat}→qae g n=none→∀i,i<n→g i=none
 |0,_,i,hi=>by omega
 |n+1,h,i,hi=>by
  simp only[qae]at h;split at h
  ·cases h
  ·rename_i h0;by_cases e:i=n
   ·rw[e];exact h
   ·exact qbe h0 i (by omega)
theorem qa7 {E:Type}{g:Nat→Option E}{e:E}: {n:Nat}→qae g n=some e→∃i,i<n∧g i=some e∧qae g i=none
 |0,h=>by cases h
 |n+1,h=>by
  simp only[qae]at h;split at h
  ·rename_i e' h0;injection h with h;subst h;obtain⟨i,h1,h2⟩:=qa7 h0;exact⟨i,by omega,h2⟩
  ·rename_i h0;exact⟨n,by omega,h,h0⟩
theorem qaW {S R E:Type}{step:(S→Option R)→S→Option R}{s0:S}(st:Nat→S) (n:Nat) (g:Nat→Option E) (out:E→Option R) (fin:Option R) (h0:st 0=s0)
  (hs:∀i,i<n→qae g i=none→∀ih,step ih (st i)=match g i with
   |some e=>out e
   |none=>ih (st (i+1)))
  (he:qae g n=none→∀ih,step ih (st n)=fin) {N:Nat}(hN:n<N):qaf N step s0=match qae g n with
   |some e=>out e
   |none=>fin:=by
 rw[←h0];have:∀k i,i+k=n→qae g i=none→∀M,k<M→qaf M step (st i)=match qae g n with
   |some e=>out e
   |none=>fin:=by
  intro k;induction k with
  |zero=>
   intro i hi hg M hM;obtain⟨M,rfl⟩:∃m,M=m+1:=⟨M-1,by omega⟩;have hin:i=n:=by omega
   subst hin;rw[qca,hg];exact he hg _
  |succ k ih=>
   intro i hi hg M hM;obtain⟨M,rfl⟩:∃m,M=m+1:=⟨M-1,by omega⟩;rw[qca,hs i (by omega) hg];cases hgi:g i with
   |none=>exact ih (i+1) (by omega) (by simp only[qae,hg,hgi]) M (by omega)
   |some e=>
    have:∀m,qae g (i+1+m)=some e:=by
     intro m;induction m with
     |zero=>simp only[zbf,qae,hg,hgi]
     |succ m ihm=>rw[←Nat.add_assoc];simp only[qae,ihm]
    have:=this k;rw[show i+1+k=n by omega]at this;rw[this]
 exact this n 0 (by omega) rfl N hN
end Go.Vi
set_option linter.unusedSimpArgs false
set_option maxRecDepth 100000
namespace Go.Vi
noncomputable section
def qgx {α:Type}(d:α) (N:Nat) (x:((List α)×(Int×(Int×(((α×(α×Unit))→(Option (Int×Unit)))×Unit))))):(Option (Unit×((List α)×Unit))):=
 (qaf (S:=((List α)×(Int×Unit))) (R:=(Unit×((List α)×Unit))) N (fun ih0=>(fun p1=>(bif (ltI p1.2.1 x.2.2.1)then(qaf (S:=((List α)×(Int×Unit))) (R:=(Unit×((List α)×Unit))) N (fun ih2=>(fun p3=>(bif (((!(ltI x.2.1 p3.2.1))||(inB p3.2.1 (qs p3.1)))&&(((!(ltI x.2.1 p3.2.1))||(inB (qR .i64 p3.2.1 1) (qs p3.1)))&&((!(ltI x.2.1 p3.2.1))||(qx (x.2.2.2.1 ((qh p3.1 p3.2.1 d),((qh p3.1 (qR .i64 p3.2.1 1) d),())))))))then(bif ((ltI x.2.1 p3.2.1)&&(ltI (qi (x.2.2.2.1 ((qh p3.1 p3.2.1 d),((qh p3.1 (qR .i64 p3.2.1 1) d),()))) (0,())).1 0))then(bif ((inB (qR .i64 p3.2.1 1) (qs p3.1))&&((inB p3.2.1 (qs p3.1))&&((inB p3.2.1 (qs p3.1))&&(inB (qR .i64 p3.2.1 1) (qs (qbh p3.1 p3.2.1 (qh p3.1 (qR .i64 p3.2.1 1) d)))))))then(ih2 ((qbh (qbh p3.1 p3.2.1 (qh p3.1 (qR .i64 p3.2.1 1) d)) (qR .i64 p3.2.1 1) (qh p3.1 p3.2.1 d)),((qR .i64 p3.2.1 1),())))else none)else(ih0 (p3.1,((qQ .i64 p1.2.1 1),()))))else none))) (p1.1,(p1.2.1,())))else(some ((),(p1.1,())))))) (x.1,((qQ .i64 x.2.1 1),())))
def qiD {α:Type}(d:α) (N:Nat) (x:((List α)×(Int×(Int×(Int×(((α×(α×Unit))→(Option (Int×Unit)))×Unit)))))):(Option (Unit×((List α)×Unit))):=
 (qaf (S:=((List α)×(Int×Unit))) (R:=(Unit×((List α)×Unit))) N (fun ih0=>(fun p1=>(bif (ltI p1.2.1 x.2.2.2.1)then(bif ((inB (qQ .i64 x.2.2.1 p1.2.1) (qs p1.1))&&((inB (qQ .i64 x.2.1 p1.2.1) (qs p1.1))&&((inB (qQ .i64 x.2.1 p1.2.1) (qs p1.1))&&(inB (qQ .i64 x.2.2.1 p1.2.1) (qs (qbh p1.1 (qQ .i64 x.2.1 p1.2.1) (qh p1.1 (qQ .i64 x.2.2.1 p1.2.1) d)))))))then(ih0 ((qbh (qbh p1.1 (qQ .i64 x.2.1 p1.2.1) (qh p1.1 (qQ .i64 x.2.2.1 p1.2.1) d)) (qQ .i64 x.2.2.1 p1.2.1) (qh p1.1 (qQ .i64 x.2.1 p1.2.1) d)),((qQ .i64 p1.2.1 1),())))else none)else(some ((),(p1.1,())))))) (x.1,(0,())))
def qfh {α:Type}(d:α) (N:Nat) (x:((List α)×(Int×(Int×(Int×(((α×(α×Unit))→(Option (Int×Unit)))×Unit)))))):(Option (Unit×((List α)×Unit))):=
 (qW (qR .i64 x.2.2.1 x.2.1) (fun y0=>(qaf (S:=((List α)×(Int×(Int×Unit)))) (R:=(Unit×((List α)×Unit))) N (fun ih1=>(fun p2=>(bif (neI p2.2.1 p2.2.2.1)then(bif (bif (ltI p2.2.2.1 p2.2.1)then(qx (qiD d N (p2.1,((qR .i64 x.2.2.1 p2.2.1),(x.2.2.1,(p2.2.2.1,(x.2.2.2.2.1,())))))))else(qx (qiD d N (p2.1,((qR .i64 x.2.2.1 p2.2.1),((qR .i64 (qQ .i64 x.2.2.1 p2.2.2.1) p2.2.1),(p2.2.1,(x.2.2.2.2.1,()))))))))then(ih1 ((bif (ltI p2.2.2.1 p2.2.1)then(qi (qiD d N (p2.1,((qR .i64 x.2.2.1 p2.2.1),(x.2.2.1,(p2.2.2.1,(x.2.2.2.2.1,())))))) ((),(([]:List α),()))).2.1 else(qi (qiD d N (p2.1,((qR .i64 x.2.2.1 p2.2.1),((qR .i64 (qQ .i64 x.2.2.1 p2.2.2.1) p2.2.1),(p2.2.1,(x.2.2.2.2.1,())))))) ((),(([]:List α),()))).2.1),((bif (ltI p2.2.2.1 p2.2.1)then(qR .i64 p2.2.1 p2.2.2.1)else p2.2.1),((bif (ltI p2.2.2.1 p2.2.1)then p2.2.2.1 else(qR .i64 p2.2.2.1 p2.2.1)),()))))else none)else(bif (qx (qiD d N (p2.1,((qR .i64 x.2.2.1 p2.2.1),(x.2.2.1,(p2.2.1,(x.2.2.2.2.1,())))))))then(some ((),((qi (qiD d N (p2.1,((qR .i64 x.2.2.1 p2.2.1),(x.2.2.1,(p2.2.1,(x.2.2.2.2.1,())))))) ((),(([]:List α),()))).2.1,())))else none)))) (x.1,(y0,((qR .i64 x.2.2.2.1 x.2.2.1),()))))))
def qma {α:Type}(d:α) (N:Nat) (Fs:((List α)×(Int×(Int×(Int×(((α×(α×Unit))→(Option (Int×Unit)))×Unit)))))→(Option (Unit×((List α)×Unit)))) (x:((List α)×(Int×(Int×(Int×(((α×(α×Unit))→(Option (Int×Unit)))×Unit)))))):(Option (Unit×((List α)×Unit))):=
 (bif (eqI (qR .i64 x.2.2.1 x.2.1) 1)then(qaf (S:=((List α)×(Int×(Int×Unit)))) (R:=(Unit×((List α)×Unit))) N (fun ih0=>(fun p1=>(bif (ltI p1.2.1 p1.2.2.1)then(bif (leI 0 1)then(qW (qbI .i64 (qgY .u64 (qbI .u64 (qQ .i64 p1.2.1 p1.2.2.1)) 1)) (fun y2=>(bif ((inB y2 (qs p1.1))&&((inB x.2.1 (qs p1.1))&&(qx (x.2.2.2.2.1 ((qh p1.1 y2 d),((qh p1.1 x.2.1 d),()))))))then(ih0 (p1.1,((bif (ltI (qi (x.2.2.2.2.1 ((qh p1.1 y2 d),((qh p1.1 x.2.1 d),()))) (0,())).1 0)then(qQ .i64 y2 1)else p1.2.1),((bif (ltI (qi (x.2.2.2.2.1 ((qh p1.1 y2 d),((qh p1.1 x.2.1 d),()))) (0,())).1 0)then p1.2.2.1 else y2),()))))else none)))else none)else(qaf (S:=((List α)×(Int×Unit))) (R:=(Unit×((List α)×Unit))) N (fun ih2=>(fun p3=>(bif (ltI p3.2.1 (qR .i64 p1.2.1 1))then(bif ((inB (qQ .i64 p3.2.1 1) (qs p3.1))&&((inB p3.2.1 (qs p3.1))&&((inB p3.2.1 (qs p3.1))&&(inB (qQ .i64 p3.2.1 1) (qs (qbh p3.1 p3.2.1 (qh p3.1 (qQ .i64 p3.2.1 1) d)))))))then(ih2 ((qbh (qbh p3.1 p3.2.1 (qh p3.1 (qQ .i64 p3.2.1 1) d)) (qQ .i64 p3.2.1 1) (qh p3.1 p3.2.1 d)),((qQ .i64 p3.2.1 1),())))else none)else(some ((),(p3.1,())))))) (p1.1,(x.2.1,())))))) (x.1,(x.2.2.1,(x.2.2.2.1,()))))else(bif (eqI (qR .i64 x.2.2.2.1 x.2.2.1) 1)then(qaf (S:=((List α)×(Int×(Int×Unit)))) (R:=(Unit×((List α)×Unit))) N (fun ih0=>(fun p1=>(bif (ltI p1.2.1 p1.2.2.1)then(bif (leI 0 1)then(qW (qbI .i64 (qgY .u64 (qbI .u64 (qQ .i64 p1.2.1 p1.2.2.1)) 1)) (fun y2=>(bif ((inB x.2.2.1 (qs p1.1))&&((inB y2 (qs p1.1))&&(qx (x.2.2.2.2.1 ((qh p1.1 x.2.2.1 d),((qh p1.1 y2 d),()))))))then(ih0 (p1.1,((bif (!(ltI (qi (x.2.2.2.2.1 ((qh p1.1 x.2.2.1 d),((qh p1.1 y2 d),()))) (0,())).1 0))then(qQ .i64 y2 1)else p1.2.1),((bif (!(ltI (qi (x.2.2.2.2.1 ((qh p1.1 x.2.2.1 d),((qh p1.1 y2 d),()))) (0,())).1 0))then p1.2.2.1 else y2),()))))else none)))else none)else(qaf (S:=((List α)×(Int×Unit))) (R:=(Unit×((List α)×Unit))) N (fun ih2=>(fun p3=>(bif (ltI p1.2.1 p3.2.1)then(bif ((inB (qR .i64 p3.2.1 1) (qs p3.1))&&((inB p3.2.1 (qs p3.1))&&((inB p3.2.1 (qs p3.1))&&(inB (qR .i64 p3.2.1 1) (qs (qbh p3.1 p3.2.1 (qh p3.1 (qR .i64 p3.2.1 1) d)))))))then(ih2 ((qbh (qbh p3.1 p3.2.1 (qh p3.1 (qR .i64 p3.2.1 1) d)) (qR .i64 p3.2.1 1) (qh p3.1 p3.2.1 d)),((qR .i64 p3.2.1 1),())))else none)else(some ((),(p3.1,())))))) (p1.1,(x.2.2.1,())))))) (x.1,(x.2.1,(x.2.2.1,()))))else(bif (leI 0 1)then(qW (qbI .i64 (qgY .u64 (qbI .u64 (qQ .i64 x.2.1 x.2.2.2.1)) 1)) (fun y0=>(qW (qQ .i64 y0 x.2.2.1) (fun y1=>(qW (bif (ltI y0 x.2.2.1)then(qR .i64 y1 x.2.2.2.1)else x.2.1) (fun y2=>(qW (bif (ltI y0 x.2.2.1)then y0 else x.2.2.1) (fun y3=>(qaf (S:=((List α)×(Int×(Int×Unit)))) (R:=(Unit×((List α)×Unit))) N (fun ih4=>(fun p5=>(bif (ltI p5.2.1 p5.2.2.1)then(bif (leI 0 1)then(qW (qbI .i64 (qgY .u64 (qbI .u64 (qQ .i64 p5.2.1 p5.2.2.1)) 1)) (fun y6=>(bif ((inB (qR .i64 (qR .i64 y1 1) y6) (qs p5.1))&&((inB y6 (qs p5.1))&&(qx (x.2.2.2.2.1 ((qh p5.1 (qR .i64 (qR .i64 y1 1) y6) d),((qh p5.1 y6 d),()))))))then(ih4 (p5.1,((bif (!(ltI (qi (x.2.2.2.2.1 ((qh p5.1 (qR .i64 (qR .i64 y1 1) y6) d),((qh p5.1 y6 d),()))) (0,())).1 0))then(qQ .i64 y6 1)else p5.2.1),((bif (!(ltI (qi (x.2.2.2.2.1 ((qh p5.1 (qR .i64 (qR .i64 y1 1) y6) d),((qh p5.1 y6 d),()))) (0,())).1 0))then p5.2.2.1 else y6),()))))else none)))else none)else(qW (qR .i64 y1 p5.2.1) (fun y6=>(qW ((ltI p5.2.1 x.2.2.1)&&(ltI x.2.2.1 y6)) (fun y7=>(bif (bif y7 then(qx (qfh d N (p5.1,(p5.2.1,(x.2.2.1,(y6,(x.2.2.2.2.1,())))))))else true)then(qW ((ltI x.2.1 p5.2.1)&&(ltI p5.2.1 y0)) (fun y8=>(bif (bif y8 then(qx (Fs ((bif y7 then(qi (qfh d N (p5.1,(p5.2.1,(x.2.2.1,(y6,(x.2.2.2.2.1,())))))) ((),(([]:List α),()))).2.1 else p5.1),(x.2.1,(p5.2.1,(y0,(x.2.2.2.2.1,())))))))else true)then(qW ((ltI y0 y6)&&(ltI y6 x.2.2.2.1)) (fun y9=>(bif (bif y9 then(qx (Fs ((bif y8 then(qi (Fs ((bif y7 then(qi (qfh d N (p5.1,(p5.2.1,(x.2.2.1,(y6,(x.2.2.2.2.1,())))))) ((),(([]:List α),()))).2.1 else p5.1),(x.2.1,(p5.2.1,(y0,(x.2.2.2.2.1,())))))) ((),(([]:List α),()))).2.1 else(bif y7 then(qi (qfh d N (p5.1,(p5.2.1,(x.2.2.1,(y6,(x.2.2.2.2.1,())))))) ((),(([]:List α),()))).2.1 else p5.1)),(y0,(y6,(x.2.2.2.1,(x.2.2.2.2.1,())))))))else true)then(some ((),((bif y9 then(qi (Fs ((bif y8 then(qi (Fs ((bif y7 then(qi (qfh d N (p5.1,(p5.2.1,(x.2.2.1,(y6,(x.2.2.2.2.1,())))))) ((),(([]:List α),()))).2.1 else p5.1),(x.2.1,(p5.2.1,(y0,(x.2.2.2.2.1,())))))) ((),(([]:List α),()))).2.1 else(bif y7 then(qi (qfh d N (p5.1,(p5.2.1,(x.2.2.1,(y6,(x.2.2.2.2.1,())))))) ((),(([]:List α),()))).2.1 else p5.1)),(y0,(y6,(x.2.2.2.1,(x.2.2.2.2.1,())))))) ((),(([]:List α),()))).2.1 else(bif y8 then(qi (Fs ((bif y7 then(qi (qfh d N (p5.1,(p5.2.1,(x.2.2.1,(y6,(x.2.2.2.2.1,())))))) ((),(([]:List α),()))).2.1 else p5.1),(x.2.1,(p5.2.1,(y0,(x.2.2.2.2.1,())))))) ((),(([]:List α),()))).2.1 else(bif y7 then(qi (qfh d N (p5.1,(p5.2.1,(x.2.2.1,(y6,(x.2.2.2.2.1,())))))) ((),(([]:List α),()))).2.1 else p5.1))),())))else none)))else none)))else none)))))))) (x.1,(y2,(y3,()))))))))))))else none)))
def qje {α:Type}(d:α) (N:Nat) (M:Nat):((List α)×(Int×(Int×(Int×(((α×(α×Unit))→(Option (Int×Unit)))×Unit)))))→(Option (Unit×((List α)×Unit))):=
 Nat.rec (motive:=fun _=>((List α)×(Int×(Int×(Int×(((α×(α×Unit))→(Option (Int×Unit)))×Unit)))))→(Option (Unit×((List α)×Unit)))) (fun _=>none) (fun _ Fs=>qma d N Fs) M
def qlV {α:Type}(d:α) (N:Nat):((List α)×(Int×(Int×(Int×(((α×(α×Unit))→(Option (Int×Unit)))×Unit)))))→(Option (Unit×((List α)×Unit))):=qje d N N
def qq7 {α:Type}(d:α) (N:Nat) (x:((List α)×(Int×(((α×(α×Unit))→(Option (Int×Unit)))×Unit)))):(Option (Unit×((List α)×Unit))):=
 (qaf (S:=((List α)×(Int×(Int×Unit)))) (R:=(Unit×((List α)×Unit))) N (fun ih0=>(fun p1=>(bif (leI p1.2.2.1 x.2.1)then(bif (qx (qgx d N (p1.1,(p1.2.1,(p1.2.2.1,(x.2.2.1,()))))))then(qW (qi (qgx d N (p1.1,(p1.2.1,(p1.2.2.1,(x.2.2.1,()))))) ((),(([]:List α),()))).2.1 (fun ys2=>(qW p1.2.2.1 (fun y3=>(ih0 (ys2,(y3,((qQ .i64 y3 20),()))))))))else none)else(bif (qx (qgx d N (p1.1,(p1.2.1,(x.2.1,(x.2.2.1,()))))))then(qaf (S:=((List α)×(Int×Unit))) (R:=(Unit×((List α)×Unit))) N (fun ih2=>(fun p3=>(bif (ltI p3.2.1 x.2.1)then(qaf (S:=((List α)×(Int×(Int×Unit)))) (R:=(Unit×((List α)×Unit))) N (fun ih4=>(fun p5=>(bif (leI p5.2.2.1 x.2.1)then(bif (qx (qlV d N (p5.1,(p5.2.1,((qQ .i64 p5.2.1 p3.2.1),(p5.2.2.1,(x.2.2.1,())))))))then(qW (qi (qlV d N (p5.1,(p5.2.1,((qQ .i64 p5.2.1 p3.2.1),(p5.2.2.1,(x.2.2.1,())))))) ((),(([]:List α),()))).2.1 (fun ys6=>(qW p5.2.2.1 (fun y7=>(ih4 (ys6,(y7,((qQ .i64 y7 (qj4 .i64 2 p3.2.1)),()))))))))else none)else(qW (qQ .i64 p5.2.1 p3.2.1) (fun y6=>(bif (bif (ltI y6 x.2.1)then(qx (qlV d N (p5.1,(p5.2.1,(y6,(x.2.1,(x.2.2.1,())))))))else true)then(ih2 ((bif (ltI y6 x.2.1)then(qi (qlV d N (p5.1,(p5.2.1,(y6,(x.2.1,(x.2.2.1,())))))) ((),(([]:List α),()))).2.1 else p5.1),((qj4 .i64 p3.2.1 2),())))else none)))))) (p3.1,(0,((qj4 .i64 2 p3.2.1),()))))else(some ((),(p3.1,())))))) ((qi (qgx d N (p1.1,(p1.2.1,(x.2.1,(x.2.2.1,()))))) ((),(([]:List α),()))).2.1,(20,())))else none)))) (x.1,(0,(20,()))))
theorem qcA {S R:Type}{st1 st2:(S→Option R)→S→Option R}(μ:S→Nat) (I:S→Prop) (Q:Option R→Option R→Prop)
  (hs:∀ih1 ih2 p,I p→(∀q,I q→μ q<μ p→Q (ih1 q) (ih2 q))→Q (st1 ih1 p) (st2 ih2 p)):∀(N:Nat) (p:S),I p→μ p<N→Q (qaf N st1 p) (qaf N st2 p)
 |0,p,_,h=>by omega
 |N+1,p,hI,h=>by
  rw[qca,qca];exact hs _ _ p hI fun q hq hm=>qcA μ I Q hs N q hq (by omega)
structure Ck {α:Type}(P:α→Prop) (n:Nat) (ys:List α):Prop where
 len:ys.length=n
 all:∀x∈ys,P x
def Res {α:Type}(P:α→Prop) (n:Nat) (r s:Option (Unit×(List α×Unit))):Prop:=∃out,Ck P n out∧r=some ((),(out,()))∧s=some ((),(out,()))
theorem Ck.inB {α:Type}{P:α→Prop}{n:Nat}{ys:List α}(h:Ck P n ys) {i:Int}(h0:0≤i) (h1:i<(n:Int)):inB i (qs ys)=true:=by
 rw[qfH,qp,h.len];simp;omega
theorem Ck.get {α:Type}{P:α→Prop}{n:Nat}{ys:List α}(h:Ck P n ys) (d:α) {i:Int}(h0:0≤i) (h1:i<(n:Int)):P (qh ys i d):=by
 obtain⟨k,rfl⟩:∃k:Nat,i=(k:Int):=⟨i.toNat,by omega⟩;have hk:k<ys.length:=by rw[h.len];omega
 rw[qY _ hk];exact h.all _ (zau hk)
theorem Ck.set {α:Type}{P:α→Prop}{n:Nat}{ys:List α}(h:Ck P n ys) (i:Int) {v:α}(hv:P v):Ck P n (qbh ys i v):=by
 rw[qbL];refine⟨by rw[List.length_set];exact h.len,fun x hx=>?_⟩;rcases List.mem_or_eq_of_mem_set hx with hx|rfl
 ·exact h.all x hx
 ·exact hv
theorem ltT {x y:Int}(h:x<y):ltI x y=true:=by rw[qbD];exact decide_eq_true h
theorem ltF {x y:Int}(h:¬x<y):ltI x y=false:=by rw[qbD];exact decide_eq_false h
theorem leT {x y:Int}(h:x≤y):leI x y=true:=by rw[qbQ];exact decide_eq_true h
theorem leF {x y:Int}(h:¬x≤y):leI x y=false:=by rw[qbQ];exact decide_eq_false h
theorem eqT {x y:Int}(h:x=y):eqI x y=true:=by rw[qaQ];exact decide_eq_true h
theorem eqF {x y:Int}(h:¬x=y):eqI x y=false:=by rw[qaQ];exact decide_eq_false h
theorem neT {x y:Int}(h:¬x=y):neI x y=true:=by rw[qaC];simp[h]
theorem neF {x y:Int}(h:x=y):neI x y=false:=by rw[qaC];simp[h]
theorem qjo {x y:Int}(hx:0≤x) (hy:0≤y) (h:x+y≤4398046511104):qbI .i64 (qgY .u64 (qbI .u64 (qQ .i64 x y)) 1)=(x+y)/2:=by
 have e1:qQ .i64 x y=x+y:=qay (by omega) (by omega);have e2:qbI .u64 (x+y)=x+y:=by rw[qfP,qqT];omega
 have e3:qgY .u64 (x+y) 1=(x+y)/2:=by
  rw[qlw];have:(2:Int)^ (min (1:Int).toNat IntKind.u64.bits)=2:=by decide
  rw[this,Int.fdiv_eq_ediv_of_nonneg _ (by omega)]
 rw[e1,e2,e3,qpL (by omega) (by omega)]
section
variable {α:Type}{P:α→Prop}{n:Nat}(d:α) {φ ψ:(α×(α×Unit))→Option (Int×Unit)}{N:Nat}
end
end
end Go.Vi
