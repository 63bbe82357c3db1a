/- The abstract interpreter: calls. -/
import Derived.Test.YtfcdfdnlgfebmaaGreatDoorViOpA
set_option linter.unusedVariables false
set_option linter.unusedSimpArgs false
set_option linter.unnecessarySimpa false
set_option linter.unusedSectionVars false
namespace Go.Vi
open Go.RowKit
def qas (P:Program) (w:World) (F:Nat→Prop):(ps:List PM)→PMs.den ps→List Value→List Nat→List Nat→Prop
 |[],_,vs,g,i=>vs=[]∧g=[]∧i=[]
 | .val t::ps,x,vs,g,i=>∃v r,vs=v::r∧qaq w F t x.1 v∧qas P w F ps x.2 r g i
 | .own et e::ps,x,vs,g,i=>∃v r g1 g2,vs=v::r∧g=g1++g2∧q7 w F et e x.1 v g1∧qas P w F ps x.2 r g2 i
 | .io t::ps,x,vs,g,i=>∃(b:Nat) (r:List Value) (i2:List Nat) (cs:List Value) (te:Nat),vs=ptr b 0::r∧i=b::i2∧w.heap[b]? =some (.cells cs.toArray te (0,0))∧Rep w F t x.1 cs∧qas P w F ps x.2 r g i2
 | .ior et e::ps,x,vs,g,i=>∃v r i1 i2,vs=v::r∧i=i1++i2∧q7 w F et e x.1 v i1∧qas P w F ps x.2 r g i2
 | .fn a b::ps,x,vs,g,i=>∃v r,vs=v::r∧qni P w F a b x.1 v∧qas P w F ps x.2 r g i
 | .nil _ _::ps,x,vs,g,i=>∃r,vs= .slice none 0 0::r∧qas P w F ps x.2 r g i
 | .rd t::ps,x,vs,g,i=>∃(ad:Addr) (cs:List Value) (r:List Value),vs= .pointer (some ad)::r∧F ad.block∧ad.block<w.heap.size∧qgJ w ad cs∧Rep w F t x.1 cs∧qas P w F ps x.2 r g i
def qcV (w:World) (F:Nat→Prop):(ps:List PM)→PMs.ioDen ps→List Value→List Nat→Prop
 |[],_,_,i=>i=[]
 | .io t::ps,y,as,i=>∃(b:Nat) (i2:List Nat) (cs:List Value) (te:Nat),i=b::i2∧w.heap[b]? =some (.cells cs.toArray te (0,0))∧Rep w F t y.1 cs∧qcV w F ps y.2 as.tail i2
 | .ior et e::ps,y,as,i=>∃i1 i2,i=i1++i2∧q7 w F et e y.1 (as.headD undef) i1∧qcV w F ps y.2 as.tail i2
 | .val _::ps,y,as,i=>qcV w F ps y as.tail i
 | .own _ _::ps,y,as,i=>qcV w F ps y as.tail i
 | .fn _ _::ps,y,as,i=>qcV w F ps y as.tail i
 | .nil _ _::ps,y,as,i=>qcV w F ps y as.tail i
 | .rd _::ps,y,as,i=>qcV w F ps y as.tail i
def qlx (w:World) (F:Nat→Prop) (g i bs:List Nat) (b:Nat):Prop:=(F b∨b∈g∨w.heap.size≤b)∧b∉bs∧b∉i
def qk.Post (C:qk) (w:World) (F:Nat→Prop) (as:List Value) (g i:List Nat) (y:RMs.den C.rs×PMs.ioDen C.ps) (v:Value) (w':World):Prop:=
 ∃vs bs,v=qe4 vs∧bs.Nodup∧(∀b∈bs,(b∈g∨w.heap.size≤b)∧b<w'.heap.size)∧qaW w' (qlx w F g i bs) (qc1 C.rs y.1) vs bs∧qcV w' (qlx w F g i bs) C.ps y.2 as i∧qcx (fun b=>b∈g++i) w w'
def qk.okT (P:Program) (T:qkG) (f:Nat) (C:qk):Prop:=
 (∀as w,(callFunc f as).run P w= .ok (.enter f as) w)∧
 ∀(w:World) (F:Nat→Prop) (x:PMs.den C.ps) (y:RMs.den C.rs×PMs.ioDen C.ps) (as:List Value) (g i:List Nat),qc4 T w F→qas P w F C.ps x as g i→(∀b∈g++i,¬F b∧b<w.heap.size)→(g++i).Nodup→C.sem x=some y→
  Calls P f as.toArray w fun e w'=>∃v,e= .returned v∧C.Post w F as g i y v w'
abbrev qk.ok (P:Program) (f:Nat) (C:qk):Prop:=C.okT P (fun _=>none) f
def qeE (E:Env) (P:Program):Prop:=∀f C,E.fn f=some C→C.okT P E.tabs f
theorem qdf.mono {w:World} {F F':Nat→Prop} :(ts:List Ty)→ {x:denL ts} → {vs:List Value} →(∀b,F b→F' b)→qdf w F ts x vs→qdf w F' ts x vs
 |[],_,_,_,h=>h
 |t::ts,_,_,hF,⟨v,r,h1,h2,h3⟩=>⟨v,r,h1,h2.mono fun b hb _=>hF b hb,h3.mono ts hF⟩
theorem qi2 {P:Program} {w:World} {F:Nat→Prop} :(ts:List Ty)→ {x:PMs.den (valPs ts)} → {vs:List Value} → {g i:List Nat} →qas P w F (valPs ts) x vs g i→qdf w F ts (qtR ts x) vs∧g=[]∧i=[]
 |[],_,_,_,_,h=>h
 |t::ts,_,_,_,_,⟨v,r,h1,h2,h3⟩=>by
  obtain ⟨k1,k2,k3⟩:=qi2 ts h3
  exact ⟨⟨v,r,h1,h2,k1⟩,k2,k3⟩
theorem qll {P:Program} {w:World} {F:Nat→Prop} :(ts:List Ty)→ {x:denL ts} → {vs:List Value} →qdf w F ts x vs→qas P w F (valPs ts) (toPs ts x) vs [] []
 |[],_,_,h=>⟨h,rfl,rfl⟩
 |t::ts,_,_,⟨v,r,h1,h2,h3⟩=>⟨v,r,h1,h2,qll ts h3⟩
theorem qkj {w:World} {F:Nat→Prop} :(us:List Ty)→ {y:RMs.den (valRs us)} → {vs:List Value} → {bs:List Nat} →qaW w F (qc1 (valRs us) y) vs bs→qdf w F us (qvt us y) vs∧bs=[]
 |[],_,_,_,h=>h
 |t::ts,_,_,_,⟨v,r,b1,b2,h1,h2,h3,h4⟩=>by
  obtain ⟨k1,k2⟩:=qkj ts h4
  have h3:b1=[]∧_:=h3
  exact ⟨⟨v,r,h1,h3.2,k1⟩,by rw [h2,h3.1,k2]; rfl⟩
theorem qib {w:World} {F:Nat→Prop} :(us:List Ty)→ {y:denL us} → {vs:List Value} →qdf w F us y vs→qaW w F (qc1 (valRs us) (qtq us y)) vs []
 |[],_,_,h=>⟨h,rfl⟩
 |t::ts,_,_,⟨v,r,h1,h2,h3⟩=>⟨v,r,[],[],h1,rfl,⟨rfl,h2⟩,qib ts h3⟩
theorem qkx:(ts:List Ty)→PMs.ioFlat (valPs ts)=true
 |[]=>rfl
 |_::r=>qkx r
theorem qlg:(ts:List Ty)→(y:PMs.ioDen (valPs ts))→qfp (valPs ts) y []=[]
 |[],_=>rfl
 |_::r,y=>qlg r y
theorem qhW {w:World} {F:Nat→Prop} :(ts:List Ty)→ {y:PMs.ioDen (valPs ts)} → {as:List Value} →qcV w F (valPs ts) y as []
 |[],_,_=>rfl
 |_::r,y,as=>qhW r (y:=y) (as:=as.tail)
theorem qlB {E:Env} {lk:Nat→Ent} :(ts:List Ty)→ {os:List Op1} → {A:qtL (valPs ts)} →(qbf E (valPs ts) os).run lk=some A→True∧A.ios=[]∧A.gone=[]
 |[],[],A,h=>by
  have:=Q.ret_some h
  subst this
  exact ⟨trivial,rfl,rfl⟩
 |[],_::_,_,h=>by cases h
 |_::_,[],_,h=>by cases h
 |t::r,o::os,A,h=>by
  obtain ⟨x,h1,h⟩:=Q.bind_some h
  obtain ⟨q,h2,h⟩:=Q.bind_some h
  have:=Q.ret_some h
  subst this
  exact qlB r h2
theorem qua {E:Env} {P:Program} (hF:qeE E P) {w:World} {F:Nat→Prop} {ts us:List Ty} {X:Sit} (hX:X.P=P∧X.w=w∧X.F=F) (hT:qc4 E.tabs w F) {a:AV} {v:Value} {φ:denL ts→Option (denL us)} (h:fnOf E ts us a=some φ) (hr:qaF X a v []):qni P w F ts us φ v:=by
 obtain ⟨rfl,rfl,rfl⟩:=hX
 unfold fnOf at h
 split at h
 ·split at h
  ·rename_i hc
   obtain ⟨rfl,rfl⟩:=hc
   injection h with h
   subst h
   exact hr.2
  ·cases h
 ·rename_i f
  split at h
  case h_2=>cases h
  rename_i C hC
  have hok:=hF f C hC
  obtain ⟨ps,rs,sem⟩:=C
  split at h
  case isFalse=>cases h
  rename_i hc
  obtain ⟨h1,h2⟩:=hc
  simp only at h1 h2
  subst h1; subst h2
  injection h with h
  subst h
  obtain ⟨_,vs,hv,hcs⟩:=hr
  have hvs:vs=[]:=hcs.1
  subst hvs
  refine ⟨f,#[],hv,hok.1,fun w' F' x y as hkp hvals hy=> ?_⟩
  simp only [qce,Option.map_eq_some_iff] at hy
  obtain ⟨z,hz,rfl⟩:=hy
  refine Calls.mono (by simpa using hok.2 w' F' (toPs ts x) z as [] [] (hT.keep hkp) (qll ts hvals) (fun b hb=>by cases hb) List.nodup_nil hz) ?_
  rintro e w'' ⟨v',rfl,rs,bs,rfl,_,_,hres,_,hk⟩
  obtain ⟨k1,rfl⟩:=qkj us hres
  refine ⟨rs,rfl,k1.mono us fun b hb=> ?_,hk.mono fun b hb=>by cases hb⟩
  rcases hb.1 with h|h|h
  ·exact .inl h
  ·cases h
  ·exact .inr h
 ·cases h
theorem qas.mono {P:Program} {w:World} {F F':Nat→Prop} (hF:∀b,F b→F' b):(ps:List PM)→ {x:PMs.den ps} → {vs:List Value} → {g i:List Nat} →qas P w F ps x vs g i→qas P w F' ps x vs g i
 |[],_,_,_,_,h=>h
 | .val t::ps,_,_,_,_,⟨v,r,h1,h2,h3⟩=>⟨v,r,h1,h2.mono fun b hb _=>hF b hb,h3.mono hF ps⟩
 | .own et e::ps,_,_,_,_,⟨v,r,g1,g2,h1,h2,h3,h4⟩=>⟨v,r,g1,g2,h1,h2,h3.keep (fun b hb hlt=>⟨hF b hb,hlt,rfl⟩) (fun _ _ _=>rfl),h4.mono hF ps⟩
 | .io t::ps,_,_,_,_,⟨b,r,i2,cs,te,h1,h2,h3,h4,h5⟩=>⟨b,r,i2,cs,te,h1,h2,h3,h4.keep fun b hb hlt=>⟨hF b hb,hlt,rfl⟩,h5.mono hF ps⟩
 | .ior et e::ps,_,_,_,_,⟨v,r,i1,i2,h1,h2,h3,h4⟩=>⟨v,r,i1,i2,h1,h2,h3.keep (fun b hb hlt=>⟨hF b hb,hlt,rfl⟩) (fun _ _ _=>rfl),h4.mono hF ps⟩
 | .fn a b::ps,_,_,_,_,⟨v,r,h1,h2,h3⟩=>⟨v,r,h1,h2.keep fun b hb hlt=>⟨hF b hb,hlt,rfl⟩,h3.mono hF ps⟩
 | .nil _ _::ps,_,_,_,_,⟨r,h1,h2⟩=>⟨r,h1,h2.mono hF ps⟩
 | .rd _::ps,_,_,_,_,⟨ad,cs,r,h1,h2,h3,h4,h5,h6⟩=>⟨ad,cs,r,h1,hF _ h2,h3,h4,h5.keep fun b hb hlt=>⟨hF b hb,hlt,rfl⟩,h6.mono hF ps⟩
theorem qrG (t:Ty) (rs:List RM) (y:RMs.den (.val t::rs)):qc1 (.val t::rs) y= .val t y.1::qc1 rs y.2:=rfl
theorem qaW.turn {w:World} {F F':Nat→Prop} :(rs:List RM)→ {y:RMs.den rs} → {vs:List Value} → {bs:List Nat} →(RMs.flat rs=true∨∀b,F b→b<w.heap.size→F' b)→qaW w F (qc1 rs y) vs bs→qaW w F' (qc1 rs y) vs bs
 |[],_,_,_,_,h=>h
 | .val t::rs,_,_,_,hF,⟨v,r,b1,b2,h1,h2,h3,h4⟩=>⟨v,r,b1,b2,h1,h2,⟨h3.1,by
   rcases hF with hF|hF
   ·simp only [RMs.flat,Bool.and_eq_true] at hF
    exact h3.2.flat hF.1
   ·exact h3.2.mono hF⟩,h4.turn rs (by
   rcases hF with hF|hF
   ·simp only [RMs.flat,Bool.and_eq_true] at hF
    exact .inl hF.2
   ·exact .inr hF)⟩
 | .own et e::rs,_,_,_,hF,⟨v,r,b1,b2,h1,h2,h3,h4⟩=>⟨v,r,b1,b2,h1,h2,by
   rcases hF with hF|hF
   ·simp only [RMs.flat,Bool.and_eq_true] at hF
    obtain ⟨cells,k1,k2,k3⟩:=h3
    exact ⟨cells,k1,k2,fun i x hi=>(k3 i x hi).flat hF.1⟩
   ·exact q7.keep (fun b hb hlt=>⟨hF b hb hlt,hlt,rfl⟩) (fun _ _ _=>rfl) h3,h4.turn rs (by
   rcases hF with hF|hF
   ·simp only [RMs.flat,Bool.and_eq_true] at hF
    exact .inl hF.2
   ·exact .inr hF)⟩
theorem qcV.turn {w:World} {F F':Nat→Prop} :(ps:List PM)→ {y:PMs.ioDen ps} → {as:List Value} → {i:List Nat} →(PMs.ioFlat ps=true∨∀b,F b→b<w.heap.size→F' b)→qcV w F ps y as i→qcV w F' ps y as i
 |[],_,_,_,_,h=>h
 | .ior et e::ps,_,_,_,hF,⟨i1,i2,h1,h2,h3⟩=>⟨i1,i2,h1,by
   rcases hF with hF|hF
   ·simp only [PMs.ioFlat,Bool.and_eq_true] at hF
    obtain ⟨cells,k1,k2,k3⟩:=h2
    exact ⟨cells,k1,k2,fun i x hi=>(k3 i x hi).flat hF.1⟩
   ·exact q7.keep (fun b hb hlt=>⟨hF b hb hlt,hlt,rfl⟩) (fun _ _ _=>rfl) h2,h3.turn ps (by
   rcases hF with hF|hF
   ·simp only [PMs.ioFlat,Bool.and_eq_true] at hF
    exact .inl hF.2
   ·exact .inr hF)⟩
 | .io t::ps,_,_,_,hF,⟨b,i2,cs,te,h1,h2,h3,h4⟩=>⟨b,i2,cs,te,h1,h2,by
   rcases hF with hF|hF
   ·simp only [PMs.ioFlat,Bool.and_eq_true] at hF
    exact h3.flat hF.1
   ·exact h3.keep fun b hb hlt=>⟨hF b hb hlt,hlt,rfl⟩,h4.turn ps (by
   rcases hF with hF|hF
   ·simp only [PMs.ioFlat,Bool.and_eq_true] at hF
    exact .inl hF.2
   ·exact .inr hF)⟩
 | .val _::ps,_,_,_,hF,h=>qcV.turn ps hF h
 | .own _ _::ps,_,_,_,hF,h=>qcV.turn ps hF h
 | .fn _ _::ps,_,_,_,hF,h=>qcV.turn ps hF h
 | .nil _ _::ps,_,_,_,hF,h=>qcV.turn ps hF h
 | .rd _::ps,_,_,_,hF,h=>qcV.turn ps hF h
section
variable {C:Ctx} {E:Env} {σ:St} {tm:Array Value} {a:Act} {w w':World} {own:Nat→List Nat} {o:Oper} {p:qhl} [Tabbed E C]
def qbW (σ:St) (tm:Array Value) (own:Nat→List Nat):List PM→List Value→List Nat→List Nat→List Nat→Prop
 |[],_,ss,i,inn=>ss=[]∧i=[]∧inn=[]
 | .io _::ps,as,ss,i,inn=>∃s r b i2 n1 n2,ss=s::r∧i=b::i2∧inn=n1++n2∧own s=b::n1∧tm.getD s undef=ptr b 0∧s<σ.length∧qbW σ tm own ps as.tail r i2 n2
 | .ior _ _::ps,as,ss,i,inn=>∃s r i1 i2,ss=s::r∧i=i1++i2∧own s=i1∧tm.getD s undef=as.headD undef∧i1=(as.headD undef).ownBlock.toList∧s<σ.length∧qbW σ tm own ps as.tail r i2 inn
 | .val _::ps,as,ss,i,inn=>qbW σ tm own ps as.tail ss i inn
 | .own _ _::ps,as,ss,i,inn=>qbW σ tm own ps as.tail ss i inn
 | .fn _ _::ps,as,ss,i,inn=>qbW σ tm own ps as.tail ss i inn
 | .nil _ _::ps,as,ss,i,inn=>qbW σ tm own ps as.tail ss i inn
 | .rd _::ps,as,ss,i,inn=>qbW σ tm own ps as.tail ss i inn
theorem qkF {σ:St} {tm:Array Value} {own:Nat→List Nat} :(ts:List Ty)→ {as:List Value} → {ss i inn:List Nat} →qbW σ tm own (valPs ts) as ss i inn→ss=[]∧i=[]∧inn=[]
 |[],_,_,_,_,h=>h
 |_::r,_,_,_,_,h=>qkF r h
def qkB (σ:St) (own:Nat→List Nat):List Nat→List Nat→List Nat→Prop
 |[],i,inn=>i=[]∧inn=[]
 |s::ss,i,inn=>∃i1 i2 n1 n2,i=i1++i2∧inn=n1++n2∧own s=i1++n1∧i1=(own s).take 1∧s<σ.length∧qkB σ own ss i2 n2
theorem qbW.flat {σ:St} {tm:Array Value} {own:Nat→List Nat} : {ps:List PM} → {as:List Value} → {ss i inn:List Nat} →qbW σ tm own ps as ss i inn→qkB σ own ss i inn
 |[],_,_,_,_,⟨h1,h2,h3⟩=>by subst h1; exact ⟨h2,h3⟩
 | .io _::ps,_,_,_,_,⟨s,r,b,i2,n1,n2,h1,h2,h3,h4,h5,h6,h7⟩=>by
  subst h1
  exact ⟨[b],i2,n1,n2,by rw [h2]; rfl,h3,by rw [h4]; rfl,by rw [h4]; rfl,h6,h7.flat⟩
 | .ior _ _::ps,as,_,_,inn,⟨s,r,i1,i2,h1,h2,h3,h4,h5,h6,h7⟩=>by
  subst h1
  refine ⟨i1,i2,[],inn,h2,rfl,by rw [h3]; simp,?_,h6,h7.flat⟩
  rw [h3,h5]
  cases (as.headD undef).ownBlock <;> rfl
 | .val _::ps,_,_,_,_,h=>qbW.flat (ps:=ps) h
 | .own _ _::ps,_,_,_,_,h=>qbW.flat (ps:=ps) h
 | .fn _ _::ps,_,_,_,_,h=>qbW.flat (ps:=ps) h
 | .nil _ _::ps,_,_,_,_,h=>qbW.flat (ps:=ps) h
 | .rd _::ps,_,_,_,_,h=>qbW.flat (ps:=ps) h
theorem qiP {s:Nat} (hne:(qt σ s).2≠ .undef):s<σ.length:=by
 by_cases h:s<σ.length
 ·exact h
 ·have:qt σ s=(0,.undef):=by simp [qt,List.getD,List.getElem?_eq_none (Nat.le_of_not_lt h)]
  rw [this] at hne
  exact absurd rfl hne
theorem qoE {w:World} {ad:Addr} {cs:List Value} {off n:Nat} (h:qgJ w ad cs):qgJ w (ad.add off) ((cs.drop off).take n):=by
 intro j z hj
 rw [qaB]
 refine h _ _ ?_
 rw [List.getElem?_take] at hj
 split at hj
 ·rwa [List.getElem?_drop] at hj
 ·cases hj
theorem qdz (hFn:qeE E C.P) (h:qag C σ a.tmps w own) (hpt:qtC (sit C σ a.tmps w own)):(ps:List PM)→ {os:List Op1} → {vs:List Value} → {A:qtL ps} →qls (sit C σ a.tmps w own) os vs→(∀o1∈os,∀s,o1.s=some s→o1.a≠ .undef→s<σ.length)→(qbf E ps os).run (qt σ)=some A→
  ∃g i inn,qas C.P w (fun b=>FW (sit C σ a.tmps w own) A.ow b∨b∈inn) ps A.x vs g i∧(∀b∈g,∃s∈A.gone,b∈own s)∧(A.gone.Nodup→g.Nodup)∧(∀s∈A.gone,s<σ.length)∧qbW σ a.tmps own ps vs A.ios i inn
 |[],[],[],A,_,_,he=>by
  have:=Q.ret_some he
  subst this
  exact ⟨[],[],[],⟨rfl,rfl,rfl⟩,fun b hb=>(by cases hb),fun _=>List.nodup_nil,fun s hs=>(by cases hs),rfl,rfl,rfl⟩
 | .val t::ps,o1::os,v::vs,A,⟨ho,hos⟩,hlt,he=>by
  obtain ⟨x,h1,he⟩:=Q.bind_some he
  obtain ⟨r,h2,he⟩:=Q.bind_some he
  have:=Q.ret_some he
  subst this
  obtain ⟨g,i,inn,k1,k2,k3,k4,k5⟩:=qdz hFn h hpt ps hos (fun o2 ho2=>hlt o2 (List.mem_cons_of_mem _ ho2)) h2
  refine ⟨g,i,inn,⟨v,vs,rfl,(qcS h ho h1).mono fun b hb _=> .inl (FW.mono (fun s hs=>List.mem_append_left _ hs) hb),k1.mono (fun b hb=> ?_) ps⟩,k2,k3,k4,k5⟩
  exact hb.imp (FW.mono fun s hs=>List.mem_append_right _ hs) id
 | .own et e::ps,o1::os,v::vs,A,⟨ho,hos⟩,hlt,he=>by
  have hrec:∀ {r:qtL ps},(qbf E ps os).run (qt σ)=some r→_:=fun h2=>qdz hFn h hpt ps hos (fun o2 ho2=>hlt o2 (List.mem_cons_of_mem _ ho2)) h2
  have fin:∀(s:Nat) (et':Nat) (e':Ty) (xs':List e'.den) (xs:List e.den) (r:qtL ps),s<σ.length→et=et'→Ty.as (t:= .slice e') (.slice e) xs'=some xs→q7 w (C.free w own) et' e' xs' v (own s)→(qbf E ps os).run (qt σ)=some r→A=⟨(xs,r.x),r.ow,s::r.gone,r.ios⟩→
    ∃g i inn,qas C.P w (fun b=>FW (sit C σ a.tmps w own) A.ow b∨b∈inn) (.own et e::ps) A.x (v::vs) g i∧(∀b∈g,∃s∈A.gone,b∈own s)∧(A.gone.Nodup→g.Nodup)∧(∀s∈A.gone,s<σ.length)∧qbW σ a.tmps own (.own et e::ps) (v::vs) A.ios i inn:=by
   intro s et' e' xs' xs r hs hty has hown hr hA
   subst hA
   subst hty
   obtain ⟨e1,e2⟩:=Ty.as_some has
   injection e1 with e1
   subst e1
   have e2:xs'=xs:=e2
   subst e2
   obtain ⟨g,i,inn,k1,k2,k3,k4,k5⟩:=hrec hr
   refine ⟨own s++g,i,inn,⟨v,vs,own s,g,rfl,rfl,hown.keep (fun b hb hlt=>⟨.inl (.inl hb),hlt,rfl⟩) (fun _ _ _=>rfl),k1⟩,fun b hb=> ?_,fun hn=> ?_,fun s' hs'=> ?_,k5⟩
   ·rcases List.mem_append.1 hb with hb|hb
    ·exact ⟨s,List.mem_cons_self,hb⟩
    ·obtain ⟨s',hs',hb⟩:=k2 b hb
     exact ⟨s',List.mem_cons_of_mem _ hs',hb⟩
   ·have hn:=List.nodup_cons.1 hn
    refine List.nodup_append.2 ⟨h.nodup s,k3 hn.2,fun b hb b' hb' e=> ?_⟩
    subst e
    obtain ⟨s',hs',hb'⟩:=k2 b hb'
    have:=h.apart s s' b hb hb'
    subst this
    exact hn.1 hs'
   ·rcases List.mem_cons.1 hs' with rfl|hs'
    ·exact hs
    ·exact k4 s' hs'
  obtain ⟨os1,ov,oa⟩:=o1
  cases oa with
  |own et' e' xs'=>
   cases os1 with
   |some s=>
    simp only [qbf] at he
    split at he
    ·rename_i hty
     split at he
     ·rename_i xs has
      obtain ⟨r,h2,he⟩:=Q.bind_some he
      exact fin s et' e' xs' xs r (hlt _ List.mem_cons_self s rfl (by simp)) hty has ho.2.2 h2 (Q.ret_some he).symm
     ·cases he
    ·cases he
   |none=>
    simp only [qbf] at he
    split at he
    ·rename_i hty
     split at he
     ·rename_i xs has
      obtain ⟨r,h2,he⟩:=Q.bind_some he
      have:=Q.ret_some he
      subst this
      subst hty
      obtain ⟨e1,e2⟩:=Ty.as_some has
      injection e1 with e1
      subst e1
      have e2:xs'=xs:=e2
      subst e2
      obtain ⟨g,i,inn,k1,k2,k3,k4,k5⟩:=hrec h2
      have ho:q7 w (C.free w own) et e' xs' v []:=ho
      exact ⟨g,i,inn,⟨v,vs,[],g,rfl,rfl,ho.keep (fun b hb hlt=>⟨.inl (.inl hb),hlt,rfl⟩) (fun _ _ _=>rfl),k1⟩,k2,k3,k4,k5⟩
     ·cases he
    ·cases he
  |ref s v0=>
   cases os1
   all_goals
    simp only [qbf,Q.run_get] at he
    split at he
    ·rename_i hv
     have hu:a.tmps.getD s undef=v:=(ho.unowned rfl).2 hv
     have hat:=h.at_ s
     rw [hu] at hat
     split at he
     ·rename_i et' e' xs' h3
      rw [h3] at hat
      split at he
      ·rename_i hty
       split at he
       ·rename_i xs has
        obtain ⟨r,h2,he⟩:=Q.bind_some he
        exact fin s et' e' xs' xs r (qiP (by rw [h3]; simp)) hty has hat h2 (Q.ret_some he).symm
       ·cases he
      ·cases he
     ·cases he
    ·cases he
  |_=>cases os1 <;> simp only [qbf] at he <;> cases he
 | .io t::ps,o1::os,v::vs,A,⟨ho,hos⟩,hlt,he=>by
  have hrec:∀ {r:qtL ps},(qbf E ps os).run (qt σ)=some r→_:=fun h2=>qdz hFn h hpt ps hos (fun o2 ho2=>hlt o2 (List.mem_cons_of_mem _ ho2)) h2
  have fin:∀(s:Nat) (c:BC) (x:t.den) (fl:Bool) (r:qtL ps),s<σ.length→(∃(b:Nat) (cs:List Value) (bs':List Nat) (te:Nat),a.tmps.getD s undef=ptr b 0∧w.heap[b]? =some (.cells cs.toArray te (0,0))∧qbg w (C.free w own) c cs bs'∧own s=b::bs')→a.tmps.getD s undef=v→(if c.size=t.size then c.get 0 t else none)=some (x,fl)→(qbf E ps os).run (qt σ)=some r→A=⟨(x,r.x),r.ow,r.gone,s::r.ios⟩→
    ∃g i inn,qas C.P w (fun b=>FW (sit C σ a.tmps w own) A.ow b∨b∈inn) (.io t::ps) A.x (v::vs) g i∧(∀b∈g,∃s∈A.gone,b∈own s)∧(A.gone.Nodup→g.Nodup)∧(∀s∈A.gone,s<σ.length)∧qbW σ a.tmps own (.io t::ps) (v::vs) A.ios i inn:=by
   intro s c x fl r hslt hbx htm hget hr hA
   subst hA
   obtain ⟨b,cs,bs',te,b1,b2,b3,b4⟩:=hbx
   obtain ⟨g,i,inn,k1,k2,k3,k4,k5⟩:=hrec hr
   split at hget
   case isFalse=>cases hget
   rename_i hsz
   obtain ⟨q1,q2,_⟩:=b3.get hget
   have hcl:=b3.length
   have hall:(cs.drop 0).take t.size=cs:=by rw [List.drop_zero]; exact List.take_of_length_le (by omega)
   rw [hall] at q2
   refine ⟨g,b::i,bs'++inn,⟨b,vs,i,cs,te,by rw [←htm,b1],rfl,b2,q2.keep fun b hb hlt=>⟨?_,hlt,rfl⟩,k1.mono (fun b hb=> ?_) ps⟩,k2,k3,k4,s,r.ios,b,i,bs',inn,rfl,rfl,rfl,b4,b1,hslt,k5⟩
   ·rcases hb with hb|hb
    ·exact .inl (.inl hb)
    ·exact .inr (List.mem_append_left _ hb)
   ·exact hb.imp id fun hb=>List.mem_append_right _ hb
  obtain ⟨os1,ov,oa⟩:=o1
  cases oa with
  |box c=>
   cases os1 with
   |some s=>
    simp only [qbf] at he
    split at he
    ·rename_i x fl hget
     obtain ⟨r,h2,he⟩:=Q.bind_some he
     have hs:s<σ.length:=hlt _ List.mem_cons_self s rfl (by simp)
     obtain ⟨g1,g2,b,cs,bs',te,g3,g4,g5,g6⟩:=ho
     exact fin s c x fl r hs ⟨b,cs,bs',te,g1.symm.trans g3,g4,g5,g6⟩ g1.symm hget h2 (Q.ret_some he).symm
    ·cases he
   |none=>simp only [qbf] at he; cases he
  |pip s off=>
   cases off with
   |succ n=>cases os1 <;> simp only [qbf] at he <;> cases he
   |zero=>
    cases os1
    all_goals
     simp only [qbf,Q.run_get] at he
     obtain ⟨_,b,hu2,hu⟩:=ho.unowned rfl
     have hu2:=hpt s b hu2
     split at he
     ·rename_i c hc
      split at he
      ·rename_i x fl hget
       obtain ⟨r,h2,he⟩:=Q.bind_some he
       exact fin s c x fl r (qiP (by rw [hc]; simp)) (h.box hc) (by rw [hu]; exact hu2) hget h2 (Q.ret_some he).symm
      ·cases he
     ·cases he
  |pbox s v0 off=>
   cases off with
   |succ n=>cases os1 <;> simp only [qbf] at he <;> cases he
   |zero=>
    cases os1
    all_goals
     simp only [qbf,Q.run_get] at he
     split at he
     ·rename_i hv
      obtain ⟨b,hu,hu2⟩:=(ho.unowned rfl).2 hv
      split at he
      ·rename_i c hc
       split at he
       ·rename_i x fl hget
        obtain ⟨r,h2,he⟩:=Q.bind_some he
        exact fin s c x fl r (qiP (by rw [hc]; simp)) (h.box hc) (by rw [hu2]; exact hu) hget h2 (Q.ret_some he).symm
       ·cases he
      ·cases he
     ·cases he
  |_=>cases os1 <;> simp only [qbf] at he <;> cases he
 | .ior et e::ps,o1::os,v::vs,A,⟨ho,hos⟩,hlt,he=>by
  have hrec:∀ {r:qtL ps},(qbf E ps os).run (qt σ)=some r→_:=fun h2=>qdz hFn h hpt ps hos (fun o2 ho2=>hlt o2 (List.mem_cons_of_mem _ ho2)) h2
  have fin:∀(s:Nat) (et':Nat) (e':Ty) (xs':List e'.den) (xs:List e.den) (r:qtL ps),s<σ.length→et=et'→Ty.as (t:= .slice e') (.slice e) xs'=some xs→q7 w (C.free w own) et' e' xs' v (own s)→a.tmps.getD s undef=v→(qbf E ps os).run (qt σ)=some r→A=⟨(xs,r.x),r.ow,r.gone,s::r.ios⟩→
    ∃g i inn,qas C.P w (fun b=>FW (sit C σ a.tmps w own) A.ow b∨b∈inn) (.ior et e::ps) A.x (v::vs) g i∧(∀b∈g,∃s∈A.gone,b∈own s)∧(A.gone.Nodup→g.Nodup)∧(∀s∈A.gone,s<σ.length)∧qbW σ a.tmps own (.ior et e::ps) (v::vs) A.ios i inn:=by
   intro s et' e' xs' xs r hs hty has hown htv hr hA
   subst hA
   subst hty
   obtain ⟨e1,e2⟩:=Ty.as_some has
   injection e1 with e1
   subst e1
   have e2:xs'=xs:=e2
   subst e2
   obtain ⟨g,i,inn,k1,k2,k3,k4,k5⟩:=hrec hr
   have hob:own s=v.ownBlock.toList:=by
    obtain ⟨cells,_,hb,_⟩:=hown
    exact hb
   exact ⟨g,own s++i,inn,⟨v,vs,own s,i,rfl,rfl,hown.keep (fun b hb hlt=>⟨.inl (.inl hb),hlt,rfl⟩) (fun _ _ _=>rfl),k1⟩,k2,k3,k4,s,r.ios,own s,i,rfl,rfl,rfl,htv,hob,hs,k5⟩
  obtain ⟨os1,ov,oa⟩:=o1
  cases oa with
  |own et' e' xs'=>
   cases os1 with
   |some s=>
    simp only [qbf] at he
    split at he
    ·rename_i hty
     split at he
     ·rename_i xs has
      obtain ⟨r,h2,he⟩:=Q.bind_some he
      exact fin s et' e' xs' xs r (hlt _ List.mem_cons_self s rfl (by simp)) hty has ho.2.2 ho.1.symm h2 (Q.ret_some he).symm
     ·cases he
    ·cases he
   |none=>simp only [qbf] at he; cases he
  |ref s v0=>
   cases os1
   all_goals
    simp only [qbf,Q.run_get] at he
    split at he
    ·rename_i hv
     have hu:a.tmps.getD s undef=v:=(ho.unowned rfl).2 hv
     have hat:=h.at_ s
     rw [hu] at hat
     split at he
     ·rename_i et' e' xs' h3
      rw [h3] at hat
      split at he
      ·rename_i hty
       split at he
       ·rename_i xs has
        obtain ⟨r,h2,he⟩:=Q.bind_some he
        exact fin s et' e' xs' xs r (qiP (by rw [h3]; simp)) hty has hat hu h2 (Q.ret_some he).symm
       ·cases he
      ·cases he
     ·cases he
    ·cases he
  |_=>cases os1 <;> simp only [qbf] at he <;> cases he
 | .nil et e::ps,o1::os,v::vs,A,⟨ho,hos⟩,hlt,he=>by
  have fin:v= .slice none 0 0→∀r:qtL ps,(qbf E ps os).run (qt σ)=some r→A=⟨((),r.x),r.ow,r.gone,r.ios⟩→∃g i inn,qas C.P w (fun b=>FW (sit C σ a.tmps w own) A.ow b∨b∈inn) (.nil et e::ps) A.x (v::vs) g i∧(∀b∈g,∃s∈A.gone,b∈own s)∧(A.gone.Nodup→g.Nodup)∧(∀s∈A.gone,s<σ.length)∧qbW σ a.tmps own (.nil et e::ps) (v::vs) A.ios i inn:=by
   intro hv r hr hA
   subst hA
   obtain ⟨g,i,inn,k1,k2,k3,k4,k5⟩:=qdz hFn h hpt ps hos (fun o2 ho2=>hlt o2 (List.mem_cons_of_mem _ ho2)) hr
   exact ⟨g,i,inn,⟨vs,by rw [hv],k1⟩,k2,k3,k4,k5⟩
  obtain ⟨os1,ov,oa⟩:=o1
  simp only [qbf] at he
  split at he
  ·rename_i et' e'
   split at he
   case isFalse=>cases he
   obtain ⟨r,h2,he⟩:=Q.bind_some he
   exact fin (ho.unowned rfl).2 r h2 (Q.ret_some he).symm
  ·rename_i et' e'
   split at he
   case isFalse=>cases he
   obtain ⟨r,h2,he⟩:=Q.bind_some he
   have ho:q7 w (C.free w own) et' e' [] v []:=ho
   refine fin ?_ r h2 (Q.ret_some he).symm
   obtain ⟨cells,k1,k2,_⟩:=ho
   rcases k1.2 with ⟨k3,_⟩|⟨g,cap,cur,k3,_⟩
   ·exact k3
   ·rw [k3] at k2
    cases k2
  ·cases he
 | .rd t::ps,o1::os,v::vs,A,⟨ho,hos⟩,hlt,he=>by
  obtain ⟨os1,ov,oa⟩:=o1
  simp only [qbf] at he
  split at he
  case h_2=>cases he
  rename_i t' y off
  split at he
  case h_2=>cases he
  rename_i x hs
  obtain ⟨r,h2,he⟩:=Q.bind_some he
  have:=Q.ret_some he
  subst this
  obtain ⟨g,i,inn,k1,k2,k3,k4,k5⟩:=qdz hFn h hpt ps hos (fun o2 ho2=>hlt o2 (List.mem_cons_of_mem _ ho2)) h2
  obtain ⟨_,ad,cs,rfl,g1,g2,g3,g4⟩:=ho.unowned rfl
  obtain ⟨q1,q2⟩:=g4.sub hs
  refine ⟨g,i,inn,⟨_,(cs.drop off).take t.size,vs,rfl,?_,?_,qoE g3,q2.keep fun b hb hlt=>⟨.inl (.inl hb),hlt,rfl⟩,k1⟩,k2,k3,k4,k5⟩
  ·rw [qT]; exact .inl (.inl g1)
  ·rw [qT]; exact g2
 | .fn ts us::ps,o1::os,v::vs,A,⟨ho,hos⟩,hlt,he=>by
  simp only [qbf] at he
  split at he
  case h_2=>cases he
  rename_i φ hφ
  obtain ⟨r,h2,he⟩:=Q.bind_some he
  have:=Q.ret_some he
  subst this
  obtain ⟨g,i,inn,k1,k2,k3,k4,k5⟩:=qdz hFn h hpt ps hos (fun o2 ho2=>hlt o2 (List.mem_cons_of_mem _ ho2)) h2
  have hun:o1.a.unowned=true:=by
   unfold fnOf at hφ
   split at hφ
   ·rename_i hq; rw [hq]; rfl
   ·rename_i hq; rw [hq]; rfl
   ·cases hφ
  have hfr:=qua hFn (w:=w) (F:=C.free w own) (X:=sit C σ a.tmps w own) ⟨rfl,rfl,rfl⟩ h.tabsE hφ (ho.unowned hun)
  exact ⟨g,i,inn,⟨v,vs,rfl,hfr.keep fun b hb hlt=>⟨.inl (.inl hb),hlt,rfl⟩,k1⟩,k2,k3,k4,k5⟩
 |[],_::_,_,_,_,_,he=>by cases he
 | .val _::ps,[],_,_,_,_,he=>by cases he
 | .own _ _::ps,[],_,_,_,_,he=>by cases he
 | .io _::ps,[],_,_,_,_,he=>by cases he
 | .fn _ _::ps,[],_,_,_,_,he=>by cases he
 | .nil _ _::ps,[],_,_,_,_,he=>by cases he
 | .rd _::ps,[],_,_,_,_,he=>by cases he
 | .ior _ _::ps,[],_,_,_,_,he=>by cases he
 |[],[],_::_,_,h,_,_=>by cases h
 | .val _::ps,_::_,[],_,h,_,_=>by cases h
 | .own _ _::ps,_::_,[],_,h,_,_=>by cases h
 | .io _::ps,_::_,[],_,h,_,_=>by cases h
 | .fn _ _::ps,_::_,[],_,h,_,_=>by cases h
 | .nil _ _::ps,_::_,[],_,h,_,_=>by cases h
 | .rd _::ps,_::_,[],_,h,_,_=>by cases h
 | .ior _ _::ps,_::_,[],_,h,_,_=>by cases h
end
end Go.Vi
