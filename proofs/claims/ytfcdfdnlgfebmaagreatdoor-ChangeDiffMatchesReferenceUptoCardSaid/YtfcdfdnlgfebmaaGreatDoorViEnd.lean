/- The abstract interpreter: a function keeps its contract, joined. -/
import Derived.Test.YtfcdfdnlgfebmaaGreatDoorViKeep
set_option linter.unusedVariables false
set_option linter.unusedSimpArgs false
set_option linter.unnecessarySimpa false
set_option linter.unusedSectionVars false
namespace Go.Vi
open Go.RowKit
theorem qsX (vs:List Value) (n:Nat) (j:Nat):(vs.toArray++Array.replicate n undef).getD j undef=vs.getD j undef:=by
 rw [Array.getD_eq_getD_getElem?,List.getD_eq_getElem?_getD]
 by_cases h:j<vs.length
 ·rw [Array.getElem?_append_left (by simpa using h)]
  simp
 ·rw [Array.getElem?_append_right (by simpa using h),List.getElem?_eq_none (by omega),Array.getElem?_replicate]
  split <;> rfl
theorem qtA {P:Program} {E:Env} (hE:qbG E P) {w w':World} {F:Nat→Prop} {fn:Func} {ps:List PM} {rs:List RM} {g i:List Nat} {σ:St} {a:Act} {own:Nat→List Nat} {y:RMs.den rs×PMs.ioDen ps}
  (hpre:∀b∈g++i,¬F b∧b<w.heap.size) (hn:(g++i).Nodup)
  {pn:Nat→Option Nat} {hT:qc4 E.tabs w fun b=>F b∧¬b∈g++i} (h:qag { P,w0:=w,O:=fun b=>b∈g++i,G:=F,pn,T:=E.tabs,hT } σ a.tmps w' own) {as:List Value} (hpin:qcp (fun s=>a.tmps.getD s undef) ps 0 as i) (he:qoi E fn ps rs σ=some y):
  ∃vs bs,(results fn a.tmps).run P w'=Result.ok (qe4 vs) w'∧bs.Nodup∧(∀b∈bs,(b∈g∨w.heap.size≤b)∧b<w'.heap.size)∧qaW w' (qlx w F g i bs) (qc1 rs y.1) vs bs∧qcV w' (qlx w F g i bs) ps y.2 as i∧qcx (fun b=>b∈g++i) w w':=by
 haveI:Tabbed E { P,w0:=w,O:=fun b=>b∈g++i,G:=F,pn,T:=E.tabs,hT } :=⟨rfl⟩
 unfold qoi at he
 split at he
 case h_2=>cases he
 rename_i y1 gone ow z hr hz
 split at he
 case isFalse=>cases he
 rename_i hc
 injection he with he
 subst he
 simp only [Bool.and_eq_true] at hc
 have hgn:=qd9 hc.1.1
 have hap:=qfB hc.1.2
 have hrow:=qfB hc.2
 obtain ⟨vs0,bs,k1,k2,k3,k4,k5⟩:=qkd hE h rs hr
 obtain ⟨_,hio⟩:=qdO h (F:=fun _=>True) (fun _ _ _ _ _ _ _=>trivial) (fun _ _=>trivial) ps 0 hz hpin
 have hbi:∀b∈bs,b∉i:=fun b hb hi=>by
  obtain ⟨s,hs,hbs⟩:=k3 b hb
  obtain ⟨et,e,ys,hys⟩:=k5 s hs
  obtain ⟨s',h1,h2⟩:=hio b hi
  have:=h.apart s s' b hbs h1
  subst this
  rcases h2 with ⟨_,c,h3⟩|⟨h3,_⟩
  ·rw [h3] at hys
   cases hys
  ·exact hrow s (List.mem_append_left _ hs) h3
 have hfree:∀b,Ctx.free { P,w0:=w,O:=fun b=>b∈g++i,G:=F,pn,T:=E.tabs,hT } w' own b→qlx w F g i bs b:=fun b hb=>by
  have hni:b∉i:=fun hi=>by
   obtain ⟨s',h1,_⟩:=hio b hi
   exact hb.2.2 s' h1
  refine ⟨?_,fun hbb=> ?_,hni⟩
  ·rcases hb.1 with hb|hb|hb
   ·exact .inl hb
   ·rcases List.mem_append.1 hb with hb|hb
    ·exact .inr (.inl hb)
    ·exact absurd hb hni
   ·exact .inr (.inr hb)
  ·obtain ⟨s,_,hbs⟩:=k3 b hbb
   exact hb.2.2 s hbs
 have hmine:∀s b,b∈own s→b∉i→F b∨b∈g∨w.heap.size≤b:=fun s b hb hni=>by
  rcases (h.mine s b hb).1 with hb|hb
  ·rcases List.mem_append.1 hb with hb|hb
   ·exact .inr (.inl hb)
   ·exact absurd hb hni
  ·exact .inr (.inr hb)
 refine ⟨_,bs,qpl k1,k4 hgn,fun b hb=> ?_,qaW.turn rs (.inr fun b hb _=> ?_) k2,(qdO h (fun b s n1 c hc hn1 hb=> ?_) hfree ps 0 hz hpin).1,h.kept⟩
 ·obtain ⟨s,_,hbs⟩:=k3 b hb
  obtain ⟨h1,h2⟩:=h.mine s b hbs
  refine ⟨?_,h2⟩
  rcases h1 with h1|h1
  ·rcases List.mem_append.1 h1 with h1|h1
   ·exact .inl h1
   ·exact absurd h1 (hbi b hb)
  ·exact .inr h1
 ·rcases hb with hb|⟨s,hs,hbs,hne⟩
  ·exact hfree b hb
  ·have hni:b∉i:=fun hi=>by
    obtain ⟨s',h1,h2⟩:=hio b hi
    have:=h.apart s s' b hbs h1
    subst this
    rcases h2 with ⟨h2,_⟩|⟨h2,_⟩
    ·exact hne h2
    ·exact hrow s (List.mem_append_right _ hs) h2
   refine ⟨hmine s b hbs hni,fun hbb=> ?_,hni⟩
   obtain ⟨s',hs',hbs'⟩:=k3 b hbb
   have:=h.apart s s' b hbs hbs'
   subst this
   exact hap s hs hs'
 ·obtain ⟨b0,cs,bs',te,b1,b2,b3,b4⟩:=h.box hc
  rw [hn1] at b4
  subst b4
  have hbs:b∈own s:=by rw [hn1]; exact List.mem_cons_of_mem _ hb
  have hni:b∉i:=fun hi=>by
   obtain ⟨s',h1,h2⟩:=hio b hi
   have:=h.apart s s' b hbs h1
   subst this
   rcases h2 with ⟨h2,_⟩|⟨_,et,e,ys,h2⟩
   ·rw [b1] at h2
    have:=(qgR h2).1
    subst this
    have hnd:=h.nodup s
    rw [hn1] at hnd
    exact (List.nodup_cons.1 hnd).1 hb
   ·rw [hc] at h2
    cases h2
  refine ⟨hmine s b hbs hni,fun hbb=> ?_,hni⟩
  obtain ⟨s',hs',hbs'⟩:=k3 b hbb
  have:=h.apart s s' b hbs hbs'
  subst this
  obtain ⟨et,e,ys,hys⟩:=k5 s hs'
  rw [hc] at hys
  cases hys
def qne:List Nat→List Nat→Nat→Option Nat
 |k::l,b::i,j=>if k=j then some b else qne l i j
 |_,_,_=>none
theorem qqe {tm:Nat→Value} :(l i:List Nat)→l.map tm=i.map (fun b=>ptr b 0)→(∀k b,qne l i k=some b→tm k=ptr b 0∧k∈l)∧∀k∈l,∃b,qne l i k=some b
 |[],_,_=>⟨fun k b h=>(by cases h),fun k h=>(by cases h)⟩
 |k::l,[],h=>by simp at h
 |k::l,b::i,h=>by
  simp only [List.map_cons,List.cons.injEq] at h
  obtain ⟨h1,h2⟩:=qqe l i h.2
  refine ⟨fun j c hj=> ?_,fun j hj=> ?_⟩
  ·simp only [qne] at hj
   split at hj
   ·rename_i e
    injection hj with hj
    subst e; subst hj
    exact ⟨h.1,List.mem_cons_self⟩
   ·obtain ⟨q1,q2⟩:=h1 j c hj
    exact ⟨q1,List.mem_cons_of_mem _ q2⟩
  ·simp only [qne]
   by_cases e:k=j
   ·exact ⟨b,by rw [if_pos e]⟩
   ·rw [if_neg e]
    rcases List.mem_cons.1 hj with hj|hj
    ·exact absurd hj.symm e
    ·exact h2 j hj
theorem qbG.pinned {E:Env} {P:Program} (h:qbG E P) (l rf:List Nat):qbG { E with pins:=l,rf:=rf } P:=
 ⟨h.ty,fun t e he=>⟨(h.elem t e he).under,(h.elem t e he).info,(h.elem t e he).notInt⟩,h.dflt,h.size,h.arr,h.struct,h.str,h.int,h.bool,h.err,h.opt,h.map,h.off,h.zero,h.eq,h.mixed⟩
theorem qfF {P:Program} {f:Nat} {fn:Func} {c:Code} (hf:P.funcs[f]? =some fn) (hb:fn.body=some c) (hname:(fn.name == "runtime.NumGoroutine")=false) (as:Array Value) (w:World):(callFunc f as).run P w= .ok (.enter f as) w:=by
 have hn:¬fn.name= "runtime.NumGoroutine" :=by simpa using hname
 simp [callFunc,hf,hn,hb]
theorem qvi {P:Program} {E:Env} (hE:qbG E P) (hF:qeE E P) {N:Nat} {anns:qu2} {f:Nat} {fn:Func} {c:Code} (hf:P.funcs[f]? =some fn) (hb:fn.body=some c) (hname:(fn.name == "runtime.NumGoroutine")=false) (D:qk)
  (hrun:∀x y,D.sem x=some y→runF E N anns fn D.ps D.rs x=some y):D.okT P E.tabs f:=by
 refine ⟨fun as w=>qfF hf hb hname as w,fun w F x y as g i hT hp hpre hn hy=> ?_⟩
 have hT':qc4 E.tabs w fun b=>F b∧¬b∈g++i:=hT.keep fun b hb hlt=>⟨⟨hb,fun hm=>(hpre b hm).1 hb⟩,hlt,rfl⟩
 have he:=hrun x y hy
 unfold runF at he
 rw [hb] at he
 simp only at he
 split at he
 case isFalse=>cases he
 rename_i hcond
 simp only [Bool.and_eq_true] at hcond
 obtain ⟨c1,c2⟩:=hcond
 have hlen:D.ps.length≤fn.ntmps:=of_decide_eq_true c2
 have hpin0:=qdn (fun s=>(as.toArray++Array.replicate (fn.ntmps - as.toArray.size) undef).getD s undef) D.ps 0 hp fun j _=>by
  rw [Nat.zero_add]; exact qsX as _ j
 obtain ⟨ib,hib⟩:=hpin0.boxes D.ps 0
 obtain ⟨p1,p2⟩:=qqe (qcq D.ps 0) ib hib
 obtain ⟨own,hst⟩:=quh (pn:=qne (qcq D.ps 0) ib) (fn:=fn) hT' hlen hp hpre hn
 have fin:∀(σ':St) (a':Act) (w':World) (own':Nat→List Nat),qdK (qdH D.ps 0) { tmps:=as.toArray++Array.replicate (fn.ntmps - as.toArray.size) undef,defers:=[] } a'→qag { P,w0:=w,O:=fun b=>b∈g++i,G:=F,pn:=qne (qcq D.ps 0) ib,T:=E.tabs,hT:=hT' } σ' a'.tmps w' own'→qoi E fn D.ps D.rs σ'=some y→
   a'.defers=[]∧∃v,(results fn a'.tmps).run P w'= .ok v w'∧∃v',Ending.returned v= .returned v'∧D.Post w F as g i y v' w':=by
  intro σ' a' w' own' hk hs hfin
  have hpin:qcp (fun s=>a'.tmps.getD s undef) D.ps 0 as i:=hpin0.congr D.ps 0 fun s hs=>hk.2 s hs
  obtain ⟨vs,bs,h1,h2,h3,h4,h5,h6⟩:=qtA hE hpre hn hs hpin hfin
  exact ⟨hk.1,qe4 vs,h1,qe4 vs,rfl,vs,bs,rfl,h2,h3,h4,h5,h6⟩
 haveI:Tabbed { E with pins:=qcq D.ps 0,rf:=qfD anns.frz (some 1000000007) } { P,w0:=w,O:=fun b=>b∈g++i,G:=F,pn:=qne (qcq D.ps 0) ib,T:=E.tabs,hT:=hT' } :=⟨rfl⟩
 refine calls_of_wp hf hb (qvg (E:= { E with pins:=qcq D.ps 0,rf:=qfD anns.frz (some 1000000007) }) (C:= { P,w0:=w,O:=fun b=>b∈g++i,G:=F,pn:=qne (qcq D.ps 0) ib,T:=E.tabs,hT:=hT' }) (pin:=qdH D.ps 0) (hE.pinned _ _) ⟨fun f C h=>hF f C h,fun k hk=>p2 k hk,fun k b h=>qcy D.ps 0 k (p1 k b h).2⟩ c c1 he (fun k b h=>(p1 k b h).1) hst ⟨fun σ' a' w' own' hfr hk hs hfin=>fin σ' a' w' own' hk hs hfin,fun i σ' a' w' own' hfr hk hs hfin=>(by cases hfin),fun σ' a' w' own' hfr hk hs hfin=>fin σ' a' w' own' hk hs hfin⟩)
theorem qnS {P:Program} {T:qkG} {f:Nat} {fn:Func} (hf:P.funcs[f]? =some fn) (hb:fn.body.isSome=true) (hname:(fn.name == "runtime.NumGoroutine")=false) {ps:List PM} {rs:List RM} :qk.okT P T f ⟨ps,rs,fun _=>none⟩:=by
 obtain ⟨c,hc⟩:=Option.isSome_iff_exists.1 hb
 exact ⟨fun as w=>qfF hf hc hname as w,fun w F x y as g i _ _ _ _ hy=>by cases hy⟩
theorem keeps {P:Program} {E:Env} (hE:qbG E P) (hF:qeE E P) {N:Nat} {anns:qu2} {f:Nat} {fn:Func} (hf:P.funcs[f]? =some fn) (hb:fn.body.isSome=true) (hname:(fn.name == "runtime.NumGoroutine")=false) {ps:List PM} {rs:List RM} {sem:PMs.den ps→Option (RMs.den rs×PMs.ioDen ps)}
  (hrun:∀x,runF E N anns fn ps rs x=sem x):qk.okT P E.tabs f ⟨ps,rs,sem⟩:=by
 obtain ⟨c,hc⟩:=Option.isSome_iff_exists.1 hb
 exact qvi hE hF (N:=N) (anns:=anns) hf hc hname ⟨ps,rs,sem⟩ fun x y h=>(hrun x).trans h
end Go.Vi
