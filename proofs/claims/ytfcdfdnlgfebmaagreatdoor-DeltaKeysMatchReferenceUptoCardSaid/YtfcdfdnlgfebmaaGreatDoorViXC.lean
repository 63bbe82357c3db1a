import Derived.Test.YtfcdfdnlgfebmaaGreatDoorViXB
import Derived.MapKept
import Derived.Deep.LoopGhost
import Derived.Orders
import Derived.Test.YtfcdfdnlgfebmaaGreatDoorViXA
import Derived.Carry
import Derived.OpenShut
import Derived.ChangeSame
import Derived.WideShapes
import Derived.Lib.Bytealg
set_option linter.unusedVariables false
set_option linter.unusedSimpArgs false
set_option linter.unnecessarySimpa false
set_option linter.unusedSectionVars false
namespace Go.Vi
open Go.RowKit
section
variable {C:Ctx} {E:Env} {σ:St} {tm:Array Value} {a:Act} {w w':World} {own:Nat→List Nat} {o:Oper} {p:qh1} [Tabbed E C]
theorem qod:∀(us:List U) (σ:St),(us.map (·.s)).Nodup→(∀u∈us,u.bump=true∧u.s<σ.length)→(∀u∈us,qA (qv σ us) u.s=((qA σ u.s).1+1,u.a))∧∀s,s∉us.map (·.s)→qA (qv σ us) s=qA σ s
 |[],σ,_,_=>⟨fun u hu=>(by cases hu),fun _ _=>rfl⟩
 |u::us,σ,hn,hb=>by
  have hn':=List.nodup_cons.1 hn
  obtain ⟨h1,h2⟩:=qod us (q7 σ u) hn'.2 (fun v hv=>⟨(hb v (List.mem_cons_of_mem _ hv)).1,by rw [qax]; exact (hb v (List.mem_cons_of_mem _ hv)).2⟩)
  obtain ⟨b1,b2⟩:=hb u List.mem_cons_self
  refine ⟨fun v hv=> ?_,fun s hs=> ?_⟩
  ·rcases List.mem_cons.1 hv with rfl|hv
   ·show qA (qv (q7 σ v) us) v.s=_
    rw [h2 _ hn'.1,qU σ v b2,b1]
    rfl
   ·show qA (qv (q7 σ u) us) v.s=_
    rw [h1 v hv]
    have hne:v.s≠u.s:=fun e=>by
     have hm:v.s∈us.map (·.s):=List.mem_map_of_mem hv
     rw [e] at hm
     exact hn'.1 hm
    rw [qB _ _ hne]
  ·have hs':s≠u.s∧s∉us.map (·.s):=by simpa using hs
   show qA (qv (q7 σ u) us) s=_
   rw [h2 s hs'.2,qB _ _ hs'.1]
theorem qfE {F:Nat→Prop} :(ps:List PM)→ {y:PMs.ioDen ps} → {as:List Value} → {ss i inn:List Nat} →qcm σ tm own ps as ss i inn→qdl w F ps y as i→
  (qfO ps y ss).map (·.s)=ss∧(∀u∈qfO ps y ss,u.bump=true∧((∃(t:Ty) (z:t.den) (b:Nat) (n1:List Nat) (cs:List Value) (te:Nat),u.a= .box (.val t z)∧b∈i∧own u.s=b::n1∧tm.getD u.s undef=ptr b 0∧w.heap[b]? =some (.cells cs.toArray te (0,0))∧Rep w F t z cs)∨
   ∃(et:Nat) (e:Ty) (xs:List e.den),u.a= .own et e xs∧qah w F et e xs (tm.getD u.s undef) (own u.s)∧(own u.s).take 1=own u.s))
 |[],_,_,_,_,_,⟨h1,_⟩,_=>by subst h1; exact ⟨rfl,fun u hu=>by cases hu⟩
 | .io t::ps,y,as,_,_,_,⟨s,ss,b,i2,n1,n2,h0,h1,h2,h3,h4,h5,h6⟩,⟨b',i2',cs,te,k1,k2,k3,k4⟩=>by
  subst h0
  rw [h1] at k1
  injection k1 with e1 e2
  subst e1; subst e2
  obtain ⟨g1,g2⟩:=qfE (ss:=ss) ps h6 k4
  refine ⟨by simp [qfO,g1],fun u hu=> ?_⟩
  rcases List.mem_cons.1 hu with rfl|hu
  ·exact ⟨rfl,.inl ⟨t,y.1,b,n1,cs,te,rfl,by rw [h1]; exact List.mem_cons_self,h3,h4,k2,k3⟩⟩
  ·obtain ⟨q0,q⟩:=g2 u hu
   refine ⟨q0,?_⟩
   rcases q with ⟨t',z,b',n1',cs',te',q1,q2,q3⟩|q
   ·exact .inl ⟨t',z,b',n1',cs',te',q1,by rw [h1]; exact List.mem_cons_of_mem _ q2,q3⟩
   ·exact .inr q
 | .ior et e::ps,y,as,_,_,_,⟨s,ss,i1,i2,h0,h1,h2,h3,h4,h5,h6⟩,⟨i1',i2',k1,k2,k3⟩=>by
  subst h0
  have e1:i1'=i1:=by
   obtain ⟨cells,_,hb,_⟩:=k2
   rw [hb,h4]
  subst e1
  rw [h1] at k1
  have e2:=List.append_cancel_left k1
  subst e2
  obtain ⟨g1,g2⟩:=qfE (ss:=ss) ps h6 k3
  refine ⟨by simp [qfO,g1],fun u hu=> ?_⟩
  rcases List.mem_cons.1 hu with rfl|hu
  ·refine ⟨rfl,.inr ⟨et,e,y.1,rfl,?_,?_⟩⟩
   ·show qah w F et e y.1 (tm.getD s undef) (own s)
    rw [h3,h2]; exact k2
   ·show (own s).take 1=own s
    rw [h2,h4]
    cases (as.headD undef).ownBlock <;> rfl
  ·obtain ⟨q0,q⟩:=g2 u hu
   refine ⟨q0,?_⟩
   rcases q with ⟨t',z,b',n1',cs',te',q1,q2,q3⟩|q
   ·exact .inl ⟨t',z,b',n1',cs',te',q1,by rw [h1]; exact List.mem_append_right _ q2,q3⟩
   ·exact .inr q
 | .val _::ps,y,as,ss,_,_,h1,h2=>by
  have:=qfE (ss:=ss) ps h1 (y:=y) h2
  simpa [qfO] using this
 | .own _ _::ps,y,as,ss,_,_,h1,h2=>by
  have:=qfE (ss:=ss) ps h1 (y:=y) h2
  simpa [qfO] using this
 | .nil _ _::ps,y,as,ss,_,_,h1,h2=>by
  have:=qfE (ss:=ss) ps h1 (y:=y) h2
  simpa [qfO] using this
 | .rd _::ps,y,as,ss,_,_,h1,h2=>by
  have:=qfE (ss:=ss) ps h1 (y:=y) h2
  simpa [qfO] using this
 | .fn _ _::ps,y,as,ss,_,_,h1,h2=>by
  have:=qfE (ss:=ss) ps h1 (y:=y) h2
  simpa [qfO] using this
theorem qlB.box: {ss i inn:List Nat} →qlB σ own ss i inn→(∀b∈i,∃s∈ss,b∈own s)∧(∀b∈inn,∃s∈ss,b∈own s)∧(∀s∈ss,s<σ.length)
 |[],_,_,⟨h1,h2⟩=>by subst h1; subst h2; exact ⟨fun b hb=>(by cases hb),fun b hb=>(by cases hb),fun b hb=>(by cases hb)⟩
 |s::ss,_,_,⟨i1,i2,n1,n2,h1,h2,h3,h4,h5,h6⟩=>by
  obtain ⟨k1,k2,k3⟩:=h6.box
  subst h1; subst h2
  refine ⟨fun c hc=> ?_,fun c hc=> ?_,fun c hc=> ?_⟩
  ·rcases List.mem_append.1 hc with hc|hc
   ·exact ⟨s,List.mem_cons_self,by rw [h3]; exact List.mem_append_left _ hc⟩
   ·obtain ⟨s',g1,g2⟩:=k1 c hc
    exact ⟨s',List.mem_cons_of_mem _ g1,g2⟩
  ·rcases List.mem_append.1 hc with hc|hc
   ·exact ⟨s,List.mem_cons_self,by rw [h3]; exact List.mem_append_right _ hc⟩
   ·obtain ⟨s',g1,g2⟩:=k2 c hc
    exact ⟨s',List.mem_cons_of_mem _ g1,g2⟩
  ·rcases List.mem_cons.1 hc with rfl|hc
   ·exact h5
   ·exact k3 c hc
theorem qlB.nodup (hnd:∀s,(own s).Nodup) (hap:∀s s' b,b∈own s→b∈own s'→s=s'): {ss i inn:List Nat} →qlB σ own ss i inn→ss.Nodup→i.Nodup∧∀b∈i,b∉inn
 |[],_,_,⟨h1,h2⟩,_=>by subst h1; subst h2; exact ⟨List.nodup_nil,fun b hb=>by cases hb⟩
 |s::ss,_,_,⟨i1,i2,n1,n2,h1,h2,h3,h4,h5,h6⟩,hn=>by
  have hn:=List.nodup_cons.1 hn
  obtain ⟨k1,k2⟩:=h6.nodup hnd hap hn.2
  obtain ⟨b1,b2,_⟩:=h6.box
  subst h1; subst h2
  have hs:=hnd s
  rw [h3] at hs
  have hs:=List.nodup_append.1 hs
  have away:∀c∈i1++n1,(∃s'∈ss,c∈own s')→False:=fun c hc ⟨s',g1,g2⟩=>by
   have:=hap s s' c (by rw [h3]; exact hc) g2
   subst this
   exact hn.1 g1
  refine ⟨List.nodup_append.2 ⟨hs.1,k1,fun c hc c' hc' e=> ?_⟩,fun c hc=> ?_⟩
  ·subst e
   exact away c (List.mem_append_left _ hc) (b1 c hc')
  rcases List.mem_append.1 hc with hc|hc
  ·intro hm
   rcases List.mem_append.1 hm with hm|hm
   ·exact hs.2.2 c hc c hm rfl
   ·exact away c (List.mem_append_left _ hc) (b2 c hm)
  ·intro hm
   rcases List.mem_append.1 hm with hm|hm
   ·exact away c (List.mem_append_right _ hm) (b1 c hc)
   ·exact k2 c hc hm
theorem qlB.first: {ss i inn:List Nat} →qlB σ own ss i inn→∀s∈ss,∀b∈(own s).take 1,b∈i
 |[],_,_,_,s,hs,_,_=>by cases hs
 |s::ss,_,_,⟨i1,i2,n1,n2,h1,h2,h3,h4,h5,h6⟩,s',hs,b,hb=>by
  rw [h1]
  rcases List.mem_cons.1 hs with rfl|hs
  ·exact List.mem_append_left _ (by rw [h4]; exact hb)
  ·exact List.mem_append_right _ (h6.first s' hs b hb)
theorem qtU {X:Sit} (rs:List RM) {y:RMs.den rs} {vs:List Value} {bs:List Nat} (h:qa5 X.w X.F (qdu rs y) vs bs):qaN X (qjP rs y) (qfZ vs) bs:=by
 match rs,y,h with
 |[],y,h=>
  obtain ⟨h1,h2⟩:=h
  subst h1
  exact ⟨[],rfl,rfl,h2⟩
 |[.val t],y,⟨v,r,b1,b2,h1,h2,h3,h4,h5⟩=>
  subst h4
  rw [h1,h2,h5,h3.1]
  exact ⟨rfl,h3.2⟩
 |[.own et e],y,⟨v,r,b1,b2,h1,h2,h3,h4,h5⟩=>
  subst h4
  rw [h1,h2,h5,List.append_nil]
  exact h3
 |r1::r2::rs,y,h=>
  have e1:qjP (r1::r2::rs) y= .tup (qdu (r1::r2::rs) y):=by unfold qjP; split <;> first|rfl|(rename_i h _; cases h)
  rw [e1]
  refine ⟨vs,?_,h⟩
  cases r1 <;> cases r2 <;> (obtain ⟨v,r,b1,b2,h1,h2,h3,v2,r2',b3,b4,h4,_⟩:=h; subst h1; subst h4; rfl)
theorem qnv (rs:List RM) (y:RMs.den rs):(qjP rs y).mentions=[]:=by
 unfold qjP
 split <;> rfl
theorem qmL (h:qar C σ a.tmps w own) {D:qi} {f:Nat} {y:RMs.den D.rs×PMs.ioDen D.ps} {as:Array Value} {gone ios g i inn:List Nat} {al:List Value} {F:Nat→Prop}
  (hcall:(∀b∈g++i,¬F b∧b<w.heap.size)→(g++i).Nodup→Calls C.P f as w fun e w'=>∃v,e= .returned v∧D.Post w F al g i y v w') (hg:∀b∈g,∃s∈gone,b∈own s) (hgn:gone.Nodup→g.Nodup) (hgl:∀s∈gone,s<σ.length) (hbx:qcm σ a.tmps own D.ps al ios i inn)
  (hF:∀b,F b→C.free w own b∨b∈inn∨(∃s,s∉gone++ios∧b∈own s))
  (hflat:(RMs.flat D.rs=true∧PMs.ioFlat D.ps=true)∨∀b,F b→C.free w own b∨b∈inn)
  (hnd:(gone++ios).Nodup) (hdst:∀d,o.dst=some d→d∉gone++ios) (hd:∀u∈qcg o (qjP D.rs y.1),u.s<σ.length)
  (hr:(execOp a.eval o).run C.P w= .ok (.enter f as) w):
  qeG C o a w (qv σ (gone.map (fun s=>⟨s,true,.undef⟩)++qfO D.ps y.2 ios++qcg o (qjP D.rs y.1))):=by
 have hn1:=List.nodup_append.1 hnd
 have hbf:=hbx.flat
 obtain ⟨bx1,bx2,bx3⟩:=hbf.box
 obtain ⟨bn1,bn2⟩:=hbf.nodup h.nodup h.apart hn1.2.1
 have hgi:(g++i).Nodup:=by
  refine List.nodup_append.2 ⟨hgn hn1.1,bn1,fun b hb b' hb' e=> ?_⟩
  subst e
  obtain ⟨s,hs,k1⟩:=hg b hb
  obtain ⟨s',hs',k2⟩:=bx1 b hb'
  have:=h.apart s s' b k1 k2
  subst this
  exact hn1.2.2 s hs s hs' rfl
 have gi:∀b∈g++i,∃s∈gone++ios,b∈own s:=fun b hb=>by
  rcases List.mem_append.1 hb with hb|hb
  ·obtain ⟨s,h1,h2⟩:=hg b hb
   exact ⟨s,List.mem_append_left _ h1,h2⟩
  ·obtain ⟨s,h1,h2⟩:=bx1 b hb
   exact ⟨s,List.mem_append_right _ h1,h2⟩
 have hpre:∀b∈g++i,¬F b∧b<w.heap.size:=by
  intro b hb
  obtain ⟨s,hs,hbs⟩:=gi b hb
  refine ⟨fun hFb=> ?_,(h.mine s b hbs).2⟩
  rcases hF b hFb with hf|hf|⟨s',hs',hf⟩
  ·exact hf.2.2 s hbs
  ·obtain ⟨s',hs',k⟩:=bx2 b hf
   have:=h.apart s s' b hbs k
   subst this
   rcases List.mem_append.1 hb with hb|hb
   ·obtain ⟨s2,hs2,k2⟩:=hg b hb
    have:=h.apart s s2 b hbs k2
    subst this
    exact hn1.2.2 s hs2 s hs' rfl
   ·exact bn2 b hb hf
  ·have:=h.apart s s' b hbs hf
   subst this
   exact hs' hs
 intro K Q hK
 unfold Oper.wp
 rw [hr]
 refine Calls.mono (hcall hpre hgi) ?_
 rintro e w' ⟨v,rfl,vs,bs,rfl,hbn,hbl,hres,hios,hkept⟩
 obtain ⟨u1,u2⟩:=qfE (σ:=σ) (tm:=a.tmps) (own:=own) D.ps hbx hios
 generalize hus:gone.map (fun s=>(⟨s,true,.undef⟩:U))++qfO D.ps y.2 ios++qcg o (qjP D.rs y.1)=us at hK
 have hslots:us.map (·.s)=gone++ios++o.dst.toList:=by
  rw [←hus,List.map_append,List.map_append,u1]
  congr 1
  ·congr 1
   rw [List.map_map]
   exact List.map_id _
  ·unfold qcg
   cases o.dst <;> rfl
 have hdst':∀d∈o.dst.toList,d∉gone++ios:=fun d hd=>hdst d (by simpa using hd)
 have hsn:(us.map (·.s)).Nodup:=by
  rw [hslots]
  refine List.nodup_append.2 ⟨hnd,by cases o.dst <;> simp,fun s hs s' hs' e=> ?_⟩
  subst e
  exact hdst' s hs' hs
 have hub:∀u∈us,u.bump=true∧u.s<σ.length:=by
  intro u hu
  rw [←hus] at hu
  rcases List.mem_append.1 hu with hu|hu
  ·rcases List.mem_append.1 hu with hu|hu
   ·obtain ⟨s,hs,rfl⟩:=List.mem_map.1 hu
    exact ⟨rfl,hgl s hs⟩
   ·refine ⟨(u2 u hu).1,bx3 u.s ?_⟩
    rw [←u1]
    exact List.mem_map_of_mem hu
  ·refine ⟨?_,hd u hu⟩
   unfold qcg at hu
   cases hdd:o.dst with
   |none=>rw [hdd] at hu; cases hu
   |some d=>rw [hdd] at hu; simp at hu; rw [hu]
 obtain ⟨at1,at2⟩:=qod us σ hsn hub
 let own':Nat→List Nat:=fun s=>if s∈o.dst.toList then bs else if s∈gone then [] else if s∈ios then (own s).take 1 else own s
 have oDst:∀d,o.dst=some d→own' d=bs:=fun d hd=>by simp [own',hd]
 have oGone:∀s∈gone,own' s=[]:=fun s hs=>by
  have:s∉o.dst.toList:=fun hm=>hdst' s hm (List.mem_append_left _ hs)
  simp only [own',if_neg this,if_pos hs]
 have oIos:∀s∈ios,own' s=(own s).take 1:=fun s hs=>by
  have h1:s∉o.dst.toList:=fun hm=>hdst' s hm (List.mem_append_right _ hs)
  have h2:s∉gone:=fun hm=>hn1.2.2 s hm s hs rfl
  simp only [own',if_neg h1,if_neg h2,if_pos hs]
 have oElse:∀s,s∉us.map (·.s)→own' s=own s:=fun s hs=>by
  rw [hslots] at hs
  simp only [List.mem_append,not_or] at hs
  simp only [own',if_neg hs.2,if_neg hs.1.1,if_neg hs.1.2]
 have bsAway:∀b∈bs,∀s,b∈own s→s∈gone:=by
  intro b hb s hs
  rcases (hbl b hb).1 with hgb|hfr
  ·obtain ⟨s',hs',k⟩:=hg b hgb
   have:=h.apart s s' b hs k
   subst this
   exact hs'
  ·have:=(h.mine s b hs).2
   omega
 have free:∀b,qmj w F g i bs b→b<w'.heap.size→(C.free w own b∨b∈inn∨(∃s,s∉gone++ios∧b∈own s)→C.free w own b∨b∈inn)→C.free w' own' b:=by
  rintro b ⟨hb1,hb2,hb3⟩ hlt hnot
  have hbase:C.base b:=by
   rcases hb1 with hb1|hb1|hb1
   ·rcases hF b hb1 with hf|hf|⟨s',hs',hf⟩
    ·exact hf.1
    ·obtain ⟨s',_,k⟩:=bx2 b hf
     exact .inr (h.mine s' b k).1
    ·exact .inr (h.mine s' b hf).1
   ·obtain ⟨s,_,k⟩:=hg b hb1
    exact .inr (h.mine s b k).1
   ·have:=h.kept.size
    exact .inr (.inr (by omega))
  refine ⟨hbase,hlt,fun s hs=> ?_⟩
  by_cases h1:s∈o.dst.toList
  ·simp only [own',if_pos h1] at hs
   exact hb2 hs
  by_cases h2:s∈gone
  ·simp only [own',if_neg h1,if_pos h2] at hs
   cases hs
  by_cases h3:s∈ios
  ·
   simp only [own',if_neg h1,if_neg h2,if_pos h3] at hs
   exact hb3 (hbf.first s h3 b hs)
  simp only [own',if_neg h1,if_neg h2,if_neg h3] at hs
  rcases hb1 with hb1|hb1|hb1
  ·rcases hnot (hF b hb1) with hf|hf
   ·exact hf.2.2 s hs
   ·obtain ⟨s',hs',k⟩:=bx2 b hf
    have:=h.apart s s' b hs k
    subst this
    exact h3 hs'
  ·obtain ⟨s',hs',k⟩:=hg b hb1
   have:=h.apart s s' b hs k
   subst this
   exact h2 hs'
  ·have:=(h.mine s b hs).2
   omega
 have conv:(RMs.flat D.rs=true∨∀b,qmj w F g i bs b→b<w'.heap.size→C.free w' own' b)∧(PMs.ioFlat D.ps=true∨∀b,qmj w F g i bs b→b<w'.heap.size→C.free w' own' b):=by
  rcases hflat with ⟨f1,f2⟩|hf
  ·exact ⟨.inl f1,.inl f2⟩
  ·have:∀b,qmj w F g i bs b→b<w'.heap.size→C.free w' own' b:=fun b hb hlt=>by
    refine free b hb hlt fun hor=> ?_
    rcases hb.1 with hFb|hgb|hfr
    ·exact hf b hFb
    ·obtain ⟨s,hs,k⟩:=hg b hgb
     rcases hor with hq|hq|⟨s',hs',k'⟩
     ·exact .inl hq
     ·exact .inr hq
     ·have:=h.apart s s' b k k'
      subst this
      exact (hs' (List.mem_append_left _ hs)).elim
    ·rcases hor with hq|hq|⟨s',hs',k'⟩
     ·exact .inl hq
     ·exact .inr hq
     ·have:=(h.mine s' b k').2
      omega
   exact ⟨.inr this,.inr this⟩
 have hres':=qa5.turn D.rs (F':=C.free w' own') conv.1 hres
 have hios':=qdl.turn D.ps (F':=C.free w' own') conv.2 hios
 obtain ⟨_,u2'⟩:=qfE (σ:=σ) (tm:=a.tmps) (own:=own) D.ps hbx hios'
 refine hK _ _ own' (qiw o a _) ?_
 have htmps:∀s,s∉o.dst.toList→(a.put o.dst (qfZ vs)).tmps.getD s undef=a.tmps.getD s undef:=fun s hs=>by
  cases hdd:o.dst with
  |none=>rfl
  |some d=>
   rw [hdd] at hs
   exact qcl _ _ (by simpa using hs)
 have hmem:∀s,s∈us.map (·.s)→(s∈gone∨s∈ios)∨s∈o.dst.toList:=fun s hs=>by
  rw [hslots] at hs
  rcases List.mem_append.1 hs with hs|hs
  ·exact .inl (List.mem_append.1 hs)
  ·exact .inr hs
 have slot:∀s,s∈us.map (·.s)→(qA σ s).1<(qA (qv σ us) s).1∧qaN (sit C (qv σ us) (a.put o.dst (qfZ vs)).tmps w' own') (qA (qv σ us) s).2 ((a.put o.dst (qfZ vs)).tmps.getD s undef) (own' s)∧(qA (qv σ us) s).2.mentions=[]:=by
  intro s hs
  obtain ⟨u,hu,rfl⟩:=List.mem_map.1 hs
  rw [at1 u hu]
  refine ⟨Nat.lt_succ_self _,?_⟩
  have hu0:=hu
  rw [←hus] at hu
  rcases List.mem_append.1 hu with hu|hu
  ·rcases List.mem_append.1 hu with hu|hu
   ·obtain ⟨s,hs,rfl⟩:=List.mem_map.1 hu
    exact ⟨trivial,rfl⟩
   ·have hsi:u.s∈ios:=by rw [←u1]; exact List.mem_map_of_mem hu
    rcases (u2' u hu).2 with ⟨t,z,b,n1,cs,te,q1,q2,q3,q4,q5,q6⟩|⟨et,e,xs,q1,q2,q3⟩
    ·simp only [q1]
     refine ⟨⟨b,cs,[],te,?_,q5,⟨rfl,q6⟩,?_⟩,rfl⟩
     ·rw [htmps _ (fun hm=>hdst' _ hm (List.mem_append_right _ hsi))]
      exact q4
     ·rw [oIos _ hsi,q3]; rfl
    ·simp only [q1]
     refine ⟨?_,rfl⟩
     show qah w' (C.free w' own') et e xs _ (own' u.s)
     rw [htmps _ (fun hm=>hdst' _ hm (List.mem_append_right _ hsi)),oIos _ hsi,q3]
     exact q2
  ·unfold qcg at hu
   cases hdd:o.dst with
   |none=>rw [hdd] at hu; cases hu
   |some d=>
    rw [hdd] at hu
    have hu:u=⟨d,true,qjP D.rs y.1⟩:=by simpa using hu
    have hdl:d<σ.length:=by have:=(hub u hu0).2; rw [hu] at this; exact this
    subst hu
    refine ⟨?_,qnv _ _⟩
    show qaN _ _ ((a.put (some d) (qfZ vs)).tmps.getD d undef) (own' d)
    rw [oDst d hdd,show (a.put (some d) (qfZ vs)).tmps.getD d undef=qfZ vs from qeS _ _ (by rw [h.size]; exact hdl)]
    exact qtU (X:=sit C (qv σ us) _ w' own') D.rs hres'
 refine h.update (fun s=>s∈us.map (·.s)) (qO _ _) (by cases o.dst <;> simp [Act.put]) ?_ (fun s hs=> .inl (slot s hs).1) ?_ ?_ ?_ ?_ (fun s hs=>(slot s hs).2.1) (fun s hs m hm=>by rw [(slot s hs).2.2] at hm; cases hm)
 ·intro s hs
  refine ⟨at2 s hs,htmps s fun hm=>hs ?_,oElse s hs⟩
  rw [hslots]
  exact List.mem_append_right _ hm
 ·refine hkept.mono fun k hk=> ?_
  obtain ⟨s,hs,hb⟩:=gi k hk
  exact ⟨s,by rw [hslots]; exact List.mem_append_left _ hs,hb⟩
 ·intro s hs
  obtain ⟨u,hu,rfl⟩:=List.mem_map.1 hs
  exact (hub u hu).2
 ·intro s hs
  rcases hmem s hs with (hm|hm)|hm
  ·rw [oGone s hm]
   exact ⟨fun b hb=>(by cases hb),List.nodup_nil⟩
  ·rw [oIos s hm]
   exact ⟨fun b hb=> .inr ⟨s,hs,List.mem_of_mem_take hb⟩,(h.nodup s).sublist (List.take_sublist _ _)⟩
  ·rw [oDst s (by simpa using hm)]
   refine ⟨fun b hb=> ?_,hbn⟩
   rcases (hbl b hb).1 with hgb|hfr
   ·obtain ⟨s',hs',k⟩:=hg b hgb
    exact .inr ⟨s',by rw [hslots]; exact List.mem_append_left _ (List.mem_append_left _ hs'),k⟩
   ·exact .inl ⟨hfr,(hbl b hb).2⟩
 ·intro s s' b hs hs' hb hb'
  have sub:∀s,s∈us.map (·.s)→s∉o.dst.toList→b∈own' s→b∈own s∧s∈ios:=by
   intro s hs hnd hb
   rcases hmem s hs with (hm|hm)|hm
   ·rw [oGone s hm] at hb; cases hb
   ·rw [oIos s hm] at hb
    exact ⟨List.mem_of_mem_take hb,hm⟩
   ·exact (hnd hm).elim
  have cross:∀s s',s∈o.dst.toList→s'∈us.map (·.s)→s'∉o.dst.toList→b∈own' s→b∈own' s'→False:=by
   intro s s' hd hs' hnd hb hb'
   rw [oDst s (by simpa using hd)] at hb
   obtain ⟨k1,k2⟩:=sub s' hs' hnd hb'
   exact hn1.2.2 s' (bsAway b hb s' k1) s' k2 rfl
  by_cases h1:s∈o.dst.toList <;> by_cases h2:s'∈o.dst.toList
  ·have e1:o.dst=some s:=by simpa using h1
   have e2:o.dst=some s':=by simpa using h2
   rw [e1] at e2
   injection e2
  ·exact (cross s s' h1 hs' h2 hb hb').elim
  ·exact (cross s' s h2 hs h1 hb' hb).elim
  ·exact h.apart s s' b (sub s hs h1 hb).1 (sub s' hs' h2 hb').1
end
end Go.Vi
namespace Go.Vi
open Go.RowKit
section
variable {C:Ctx} {E:Env} {σ:St} {tm:Array Value} {a:Act} {w w':World} {own:Nat→List Nat} {o:Oper} {p:qh1} [Tabbed E C]
theorem qar.expose (h:qar C σ tm w own) {s:Nat} {c:BC} {u:Ty} {x:u.den} {f:Bool} (hs:(qA σ s).2= .box c) (hsz:c.size=u.size) (hg:c.get 0 u=some (x,f)):
  ∃own',qar C (q7 σ ⟨s,true,.view u x 0⟩) tm w own'∧(∀b,C.free w own b→C.free w own' b)∧(∀s',∀b∈own' s',b∈own s')∧
   ∃(b:Nat) (cs:List Value),tm.getD s undef= .pointer (some ⟨b,0,none⟩)∧C.free w own' b∧b<w.heap.size∧qhB w ⟨b,0,none⟩ cs∧Rep w (C.free w own') u x cs:=by
 have hsl:s<σ.length:=qjT (by rw [hs]; simp)
 have hr:=h.rep s hsl
 rw [hs] at hr
 obtain ⟨b,cs,bs',te,h1,h2,h3,h4⟩:=hr
 let own':Nat→List Nat:=fun s'=>if s'=s then [] else own s'
 have sub:∀s',∀b∈own' s',b∈own s':=fun s' b hb=>by
  simp only [own'] at hb
  split at hb
  ·cases hb
  ·exact hb
 have mono:∀b,C.free w own b→C.free w own' b:=fun b hb=>⟨hb.1,hb.2.1,fun s' hs'=>hb.2.2 s' (sub s' b hs')⟩
 have new:∀b∈own s,C.free w own' b:=fun b hb=>⟨.inr (h.mine s b hb).1,(h.mine s b hb).2,fun s' hs'=>by
  have:=h.apart s s' b hb (sub s' b hs')
  subst this
  simp [own'] at hs'⟩
 have hb0:b∈own s:=by rw [h4]; exact List.mem_cons_self
 obtain ⟨q1,q2,_⟩:=h3.get hg
 have hlen:=h3.length
 rw [List.drop_zero,List.take_of_length_le (by omega)] at q2
 have hrep:Rep w (C.free w own') u x cs:=q2.keep fun b' hb' hlt=>⟨by
  rcases hb' with hb'|hb'
  ·exact mono b' hb'
  ·exact new b' (by rw [h4]; exact List.mem_cons_of_mem _ hb'),hlt,rfl⟩
 have hcl:qhB w ⟨b,0,none⟩ cs:=by
  have:=qiv (off:=0) (n:=cs.length) h2
  rwa [List.drop_zero,List.take_length] at this
 have hlt:b<w.heap.size:=(h.mine s b hb0).2
 have eS:qA (q7 σ ⟨s,true,.view u x 0⟩) s=((qA σ s).1+1,.view u x 0):=qU σ ⟨s,true,_⟩ hsl
 refine ⟨own',?_,mono,sub,b,cs,h1,new b hb0,hlt,hcl,hrep⟩
 refine h.update (fun x=>x=s) (qax _ _) rfl (fun s' hs'=>⟨qB σ ⟨s,true,.view u x 0⟩ hs',rfl,by simp [own',hs']⟩) (fun s' hs'=> .inl (by subst hs'; rw [eS]; exact Nat.lt_succ_self _)) (qc7.refl _ _) (fun s' hs'=>by subst hs'; exact hsl) (fun s' hs'=> ?_) (fun x y b hx hy _ _=>hx.trans hy.symm) (fun s' hs'=> ?_) (fun s' hs' m hm=> ?_)
 ·subst hs'
  simp only [own',if_true]
  exact ⟨fun b hb=>(by cases hb),List.nodup_nil⟩
 ·subst hs'
  rw [eS]
  simp only [own',if_true]
  exact ⟨rfl,⟨b,0,none⟩,cs,by rw [h1]; rfl,new b hb0,hlt,hcl,hrep⟩
 ·subst hs'
  rw [eS] at hm
  cases hm
def qjy (w:World) (F:Nat→Prop):(us:List Ty)→denL us→List Value→Prop
 |[],_,vs=>vs=[]
 |u::us,x,vs=>∃(ad:Addr) (cs:List Value) (r:List Value),vs= .pointer (some ad)::r∧F ad.block∧ad.block<w.heap.size∧qhB w ad cs∧Rep w F u x.1 cs∧qjy w F us x.2 r
theorem qjy.keep {w w':World} {F F':Nat→Prop} (hF:∀b,F b→b<w.heap.size→F' b∧b<w'.heap.size∧w'.heap[b]? =w.heap[b]?):(us:List Ty)→ {x:denL us} → {vs:List Value} →qjy w F us x vs→qjy w' F' us x vs
 |[],_,_,h=>h
 |u::us,_,_,⟨ad,cs,r,h1,h2,h3,h4,h5,h6⟩=>by
  obtain ⟨g1,g2,g3⟩:=hF _ h2 h3
  exact ⟨ad,cs,r,h1,g1,g2,fun j z hj=>by rw [←h4 j z hj]; exact World.cell?_of_block (by rw [q8]; exact g3),h5.keep hF,h6.keep hF us⟩
theorem qle {P:Program} {w:World} {F:Nat→Prop} :(ts us:List Ty)→ {x:denL ts} → {y:denL us} → {vs cs:List Value} →qdM w F ts x vs→qjy w F us y cs→qaD P w F (valPs ts++rdPs us) (qqQ ts us x y) (vs++cs) [] []
 |[],[],_,_,vs,cs,h1,h2=>by
  have h1:vs=[]:=h1
  have h2:cs=[]:=h2
  subst h1; subst h2
  exact ⟨rfl,rfl,rfl⟩
 |[],u::us,_,_,vs,cs,h1,⟨ad,ds,r,k1,k2,k3,k4,k5,k6⟩=>by
  have h1:vs=[]:=h1
  subst h1
  exact ⟨ad,ds,r,k1,k2,k3,k4,k5,qle [] us (x:=()) (vs:=[]) rfl k6⟩
 |t::ts,us,_,_,vs,cs,⟨v,r,h1,h2,h3⟩,h4=>by
  subst h1
  exact ⟨v,r++cs,rfl,h2,qle ts us h3 h4⟩
theorem qnh:(us:List Ty)→(ops:List Operand)→ {q:denL us×List U} →(qrh us ops).run (qA σ)=some q→(qhA ops).Nodup→ {τ:St} → {own:Nat→List Nat} →qar C τ a.tmps w own→(∀s∈qhA ops,qA τ s=qA σ s)→
  ∃own',qar C (qv τ q.2) a.tmps w own'∧(∀b,C.free w own b→C.free w own' b)∧qjy w (C.free w own') us q.1 (ops.map a.eval)∧∀u∈q.2,u.s∈qhA ops
 |[],[],q,he,_,τ,own,h,_=>by
  have:=Q.ret_some he
  subst this
  exact ⟨own,h,fun _ hb=>hb,rfl,fun u hu=>by cases hu⟩
 |[],_::_,_,he,_,_,_,_,_=>by cases he
 |_::_,[],_,he,_,_,_,_,_=>by cases he
 |u::us,.const _::_,_,he,_,_,_,_,_=>by cases he
 |u::us,.func _::_,_,he,_,_,_,_,_=>by cases he
 |u::us,.global _::_,_,he,_,_,_,_,_=>by cases he
 |u::us,.tmp s::r,q,he,hn,τ,own,h,hsame=>by
  simp only [qrh,Q.run_get] at he
  obtain ⟨q1,h1,he⟩:=Q.bind_some he
  have hn:=List.nodup_cons.1 hn
  have hs0:=hsame s List.mem_cons_self
  split at he
  ·rename_i c hc
   split at he
   case isFalse=>cases he
   rename_i hsz
   split at he
   case h_2=>cases he
   rename_i x f hg
   have:=Q.ret_some he
   subst this
   obtain ⟨own1,k1,k2,k3,b,cs,k4,k5,k6,k7,k8⟩:=h.expose (by rw [hs0]; exact hc) hsz hg
   obtain ⟨own2,g1,g2,g3,g4⟩:=qnh us r h1 hn.2 k1 (fun s' hs'=>by
    rw [qB τ ⟨s,true,.view u x 0⟩ (show s'≠s from fun e=>hn.1 (e ▸ hs'))]
    exact hsame s' (List.mem_cons_of_mem _ hs'))
   refine ⟨own2,g1,fun b hb=>g2 b (k2 b hb),⟨⟨b,0,none⟩,cs,_,?_,g2 b k5,k6,k7,k8.keep fun b hb hlt=>⟨g2 b hb,hlt,rfl⟩,g3⟩,fun u' hu'=> ?_⟩
   ·simp only [List.map_cons]
    congr 1
   ·rcases List.mem_cons.1 hu' with rfl|hu'
    ·exact List.mem_cons_self
    ·exact List.mem_cons_of_mem _ (g4 u' hu')
  ·rename_i t y off hv
   split at he
   case h_2=>cases he
   rename_i x hsub
   have:=Q.ret_some he
   subst this
   obtain ⟨own2,g1,g2,g3,g4⟩:=qnh us r h1 hn.2 h (fun s' hs'=>hsame s' (List.mem_cons_of_mem _ hs'))
   have hsl:s<τ.length:=qjT (by rw [hs0,hv]; simp)
   have hr:=h.rep s hsl
   rw [hs0,hv] at hr
   obtain ⟨_,ad,cs,m1,m2,m3,m4,m5⟩:=hr
   obtain ⟨n1,n2⟩:=m5.sub hsub
   refine ⟨own2,g1,g2,⟨ad.add off,(cs.drop off).take u.size,_,?_,?_,?_,qp2 m4,n2.keep fun b hb hlt=>⟨g2 b hb,hlt,rfl⟩,g3⟩,fun u' hu'=>List.mem_cons_of_mem _ (g4 u' hu')⟩
   ·simp only [List.map_cons]
    congr 1
   ·rw [q8]; exact g2 _ m2
   ·rw [q8]; exact m3
  ·cases he
theorem qo5 (hF:qfu E C.P) (h:qar C σ a.tmps w own) {fn:Fn} {first caps:Array Operand} (hop:o.op= .makeFunc fn first caps) {f:Eff}
  (he:(qe2 E p o).run (qA σ)=some f) (hd:∀u∈f.upd,u.s<σ.length):qeG C o a w (qv σ f.upd):=by
 unfold qe2 at he
 rw [hop] at he
 simp only at he
 split at he
 case h_2=>cases he
 rename_i g
 split at he
 case isFalse=>cases he
 rename_i hfirst
 unfold cloE at he
 split at he
 case h_2=>cases he
 rename_i D hD
 split at he
 case h_2=>cases he
 rename_i ts us vs hp1 hp2
 split at he
 case isFalse=>cases he
 rename_i hty
 obtain ⟨q,h1,he⟩:=Q.bind_some he
 split at he
 case isFalse=>cases he
 rename_i hcond
 simp only [Bool.and_eq_true] at hcond
 have:=Q.ret_some he
 subst this
 have hnd:=qeW hcond.1
 obtain ⟨own',k1,k2,k3,k4⟩:=qnh us caps.toList h1 hnd h (fun _ _=>rfl)
 have hok:=hF g D hD
 obtain ⟨ps,rs,sem⟩:=D
 obtain ⟨e1,e2⟩:=hty
 simp only at e1 e2 hp1 hp2
 subst e1; subst e2
 have hrun:(execOp a.eval o).run C.P w= .ok (.value (.func (.func g) #[] (caps.map a.eval))) w:=by
  unfold execOp
  rw [hop]
  have hf0:first= #[]:=by simpa using hfirst
  subst hf0
  simp only [Instr.makeFunc,Sem.run_bind,Sem.run_pure,Result.andThen_ok,Array.map_empty]
 have hrep:qoU C.P w (C.free w own') ts vs (fun x:denL ts=>qf8 (fun y:RMs.den (valRs vs)×PMs.ioDen (valPs ts++rdPs us)=>qvZ vs y.1) (sem (qqQ ts us x q.1))) (.func (.func g) #[] (caps.map a.eval)):=by
  refine ⟨g,caps.map a.eval,rfl,hok.1,fun w' F' x y as hkp hvals hy=> ?_⟩
  simp only [qbX,Option.map_eq_some_iff] at hy
  obtain ⟨z,hz,rfl⟩:=hy
  have hcaps:qjy w' F' us q.1 (caps.map a.eval).toList:=by
   have:=k3.keep hkp us
   simpa using this
  have hpar:=qle (P:=C.P) ts us hvals hcaps
  have:=hok.2 w' F' (qqQ ts us x q.1) z (as++(caps.map a.eval).toList) [] [] ((qar.tabsE (E:=E) k1).keep hkp) hpar (fun b hb=>by cases hb) List.nodup_nil hz
  have e:(as++(caps.map a.eval).toList).toArray=as.toArray++caps.map a.eval:=by simp
  rw [e] at this
  refine Calls.mono this ?_
  rintro e w'' ⟨v',rfl,rs,bs,rfl,_,_,hres,_,hk⟩
  obtain ⟨m1,rfl⟩:=qlq vs hres
  refine ⟨rs,rfl,m1.mono vs fun b hb=> ?_,hk.mono fun b hb=>by cases hb⟩
  rcases hb.1 with h|h|h
  ·exact .inl h
  ·cases h
  ·exact .inr h
 have hd2:∀u∈qcg o (.fnv ts vs (fun x:denL ts=>qf8 (fun y:RMs.den (valRs vs)×PMs.ioDen (valPs ts++rdPs us)=>qvZ vs y.1) (sem (qqQ ts us x q.1)))),u.s<(qv σ q.2).length:=fun u hu=>by
  rw [qO]; exact hd u (List.mem_append_right _ hu)
 obtain ⟨own2,hst⟩:=k1.dst0 (o:=o) (av:= .fnv ts vs (fun x:denL ts=>qf8 (fun y:RMs.den (valRs vs)×PMs.ioDen (valPs ts++rdPs us)=>qvZ vs y.1) (sem (qqQ ts us x q.1)))) (v:= .func (.func g) #[] (caps.map a.eval)) hd2 ⟨rfl,hrep⟩ (fun m hm=>by cases hm)
 intro K Q1 hK
 unfold Oper.wp
 rw [hrun]
 rw [qb0] at hK
 exact hK _ _ own2 (qiw o a _) hst
end
end Go.Vi
namespace Go.Vi
open Go.RowKit
theorem quN:(k:Ty)→k.key=true→ {x y:k.den} →keyV k x=keyV k y→x=y
 | .int _,_,x,y,h=>by simp [keyV] at h; exact h
 | .bool,_,x,y,h=>by simp [keyV] at h; exact h
 | .str,_,x,y,h=>by simpa [keyV] using h
theorem qeP: {k:Ty} → {d:TypeDesc} →qla k d=true→(x:k.den)→MapKept.IsKey d (keyV k x)
 | .int k,.int k',h,_=>by
  have:k'=k:=of_decide_eq_true h
  exact this.symm
 | .bool,.bool,_,_=>trivial
 | .str,.string,_,_=>trivial
theorem qhe: {k:Ty} → {d:TypeDesc} →qla k d=true→k.key=true
 | .int _,.int _,_=>rfl
 | .bool,.bool,_=>rfl
 | .str,.string,_=>rfl
theorem qaA.keyV {w:World} {F:Nat→Prop} : {k:Ty} →k.key=true→ {x:k.den} → {v:Value} →qaA w F k x v→v=Vi.keyV k x
 | .int _,_,_,_,h=>h.int.1
 | .bool,_,_,_,h=>h.bool
 | .str,_,_,_,h=>h.str.1
section
open Classical
theorem quK {α β:Type} (k:α):qf9 ([]:List (α×β)) k=0:=rfl
theorem qtM {α β:Type} (p:α×β) (xs:List (α×β)) (k:α):qf9 (p::xs) k=if p.1=k then 0 else qf9 xs k+1:=by
 unfold qf9
 rw [List.findIdx_cons]
 by_cases h:p.1=k
 ·simp [h]
 ·simp [h]
end
theorem qwJ {α β:Type} {xs:List (α×β)} {k:α} (h:qf9 xs k<xs.length):(xs[qf9 xs k]'h).1=k:=by
 unfold qf9 at h⊢
 have:=List.findIdx_getElem (w:=h)
 simpa using this
theorem qre {k:Ty} {d:TypeDesc} (hd:qla k d=true) {β:Type} (x:k.den):∀(xs:List (k.den×β)) (l:List MapEntry) (i:Nat),l.length=xs.length→(∀(j:Nat) (e:MapEntry) (p:k.den×β),l[j]? =some e→xs[j]? =some p→e.key=keyV k p.1)→
  (qf9 xs x<xs.length∧∃e,l[qf9 xs x]? =some e∧Instr.findNow d (keyV k x) l i=some (some (i+qf9 xs x,e.val)))∨(¬qf9 xs x<xs.length∧Instr.findNow d (keyV k x) l i=some none)
 |[],[],i,_,_=> .inr ⟨by simp [quK],rfl⟩
 |p::xs,e::l,i,hl,h=>by
  have hk:e.key=keyV k p.1:=h 0 e p rfl rfl
  obtain ⟨r,hr,hiff⟩:=MapKept.sameNow_of_keys (qeP hd x) (by rw [hk]; exact qeP hd p.1:MapKept.IsKey d e.key)
  rw [qtM]
  by_cases hpx:p.1=x
  ·have hr1:r=true:=hiff.2 (by rw [hk,hpx])
   subst hr1
   rw [if_pos hpx]
   exact .inl ⟨by simp,e,rfl,by simp [Instr.findNow,hr]⟩
  ·have hr1:r=false:=by
    cases r with
    |false=>rfl
    |true=>exact absurd (quN k (qhe hd) (by rw [←hk]; exact (hiff.1 rfl).symm)) hpx
   subst hr1
   rw [if_neg hpx]
   rcases qre hd x xs l (i+1) (by simpa using hl) (fun j e p he hp=>h (j+1) e p (by simpa using he) (by simpa using hp)) with ⟨h1,e',h2,h3⟩|⟨h1,h2⟩
   ·refine .inl ⟨by simpa using h1,e',by simpa using h2,?_⟩
    simp [Instr.findNow,hr,h3]
    omega
   ·exact .inr ⟨by simpa using h1,by simp [Instr.findNow,hr,h2]⟩
section
variable {C:Ctx} {E:Env} {σ:St} {tm:Array Value} {a:Act} {w w':World} {own:Nat→List Nat} {o:Oper} {p:qh1} [Tabbed E C]
theorem mapOf_ok (h:qar C σ a.tmps w own) {o1:Op1} {v:Value} (ho:qct (sit C σ a.tmps w own) o1 v) {M:MV} (he:(qsy o1).run (qA σ)=some M):
  (qA σ M.s).2= .mp M.k M.v M.xs∨(o1.s=some M.s∧o1.a= .mp M.k M.v M.xs):=by
 unfold qsy at he
 split at he
 ·rename_i s k v xs h1 h2
  have:=Q.ret_some he
  subst this
  exact .inr ⟨h1,h2⟩
 ·rename_i s v0 h2
  rw [Q.run_get] at he
  split at he
  ·split at he
   ·rename_i k v xs hx
    have:=Q.ret_some he
    subst this
    exact .inl hx
   ·cases he
  ·cases he
 ·cases he
theorem qpq (h:qar C σ a.tmps w own) {x:Operand} {o1:Op1} {tid:Nat} (hp:qb9 (sit C σ a.tmps w own) p) (hx:(opd E p tid x).run (qA σ)=some o1) {M:MV} (he:(qsy o1).run (qA σ)=some M):
  M.s<σ.length∧(qA σ M.s).2= .mp M.k M.v M.xs∧a.tmps.getD M.s undef=a.eval x∧qj9 w (C.free w own) M.k M.v M.xs (a.eval x) (own M.s):=by
 have ho:=qaL h hp hx
 have lt:∀s,(qA σ s).2= .mp M.k M.v M.xs→s<σ.length:=fun s hs=>by
  apply Classical.byContradiction
  intro hn
  have:qA σ s=(0,.undef):=by simp [qA,List.getD,List.getElem?_eq_none (Nat.le_of_not_lt hn)]
  rw [this] at hs
  cases hs
 unfold qsy at he
 split at he
 ·rename_i s k v xs h1 h2
  have:=Q.ret_some he
  subst this
  have hgs:(qA σ s).2= .mp k v xs∨∃s' v' w' a',(qA σ s).2= .grd s' v' w' a':=by
   unfold opd at hx
   split at hx
   ·rename_i t
    rw [Q.run_get] at hx
    have:=Q.ret_some hx
    subst this
    simp only at h1 h2
    injection h1 with h1
    subst h1
    generalize hg:(qA σ t).2=g at h2
    cases g with
    |grd s' v' w' a'=>exact .inr ⟨s',v',w',a',rfl⟩
    |_=>left; unfold qb8 at h2; exact h2
   ·split at hx
    ·have:=Q.ret_some hx
     subst this
     cases h1
    ·cases hx
   ·have:=Q.ret_some hx
    subst this
    cases h1
   ·split at hx
    ·have:=Q.ret_some hx
     subst this
     cases h1
    ·cases hx
  unfold qct at ho
  rw [h1,h2] at ho
  obtain ⟨e1,e2,e3⟩:=ho
  rcases hgs with hgs|⟨s',v',w',a',hgs⟩
  ·exact ⟨lt s hgs,hgs,e1.symm,e3⟩
  ·have hat:=h.at_ s
   rw [hgs] at hat
   have hn:own s=[]:=hat.1
   obtain ⟨b,es,_,hb,_⟩:=e3
   have hb:own s=[b]:=hb
   rw [hn] at hb
   cases hb
 ·rename_i s v0 h2
  rw [Q.run_get] at he
  split at he
  ·rename_i hv
   split at he
   ·rename_i k v xs hm
    have:=Q.ret_some he
    subst this
    have hu:=ho.unowned (by rw [h2]; rfl)
    rw [h2] at hu
    have e1:a.tmps.getD s undef=a.eval x:=hu.2 hv
    have hat:=h.at_ s
    rw [hm,e1] at hat
    exact ⟨lt s hm,hm,e1,hat⟩
   ·cases he
  ·cases he
 ·cases he
theorem qvJ (h:qar C σ a.tmps w own) {k:Ty} (hk:k.key=true) {o1:Op1} {v:Value} {q:k.den×List Nat} (ho:qct (sit C σ a.tmps w own) o1 v) (he:(toVal k o1).run (qA σ)=some q):v=keyV k q.1:=
 (qde h ho he).keyV hk
theorem qpe (hE:qbZ E C.P) (h:qar C σ a.tmps w own) {t:Nat} {r:Option Operand} (hop:o.op= .makeMap t r) {f:Eff}
  (he:(qe2 E p o).run (qA σ)=some f) (hd:∀u∈f.upd,u.s<σ.length):qeG C o a w (qv σ f.upd):=by
 unfold qe2 at he
 rw [hop] at he
 simp only at he
 split at he
 case isFalse=>cases he
 rename_i hr
 cases r with
 |some _=>cases hr
 |none=>
  unfold qq9 at he
  split at he
  ·rename_i k v hty
   have:=qS he
   subst this
   obtain ⟨kn,vn,d,i,z,h1,h2,h3,_⟩:=hE.map t k v hty
   refine qR (v:= .map (some w.heap.size)) (w':=w.alloc (.map #[] 0)) ?_ (h.dst (bs:=[w.heap.size]) (qc7.alloc _ w _) hd (fun b hb=> ?_) (by simp) ?_ (fun m hm=>by cases hm))
   ·unfold execOp
    rw [hop]
    simp [Instr.makeMap]
   ·simp at hb
    subst hb
    exact ⟨Nat.le_refl _,by simp⟩
   ·refine ⟨w.heap.size,#[],rfl,rfl,?_,rfl,qhe h3,fun i e p hi _=>by simp at hi⟩
    exact (MapKept.heap_alloc w _).1
  ·cases he
theorem qj9.look {F:Nat→Prop} {k t:Ty} {xs:List (k.den×t.den)} {v:Value} {bs:List Nat} (h:qj9 w F k t xs v bs) {d:TypeDesc} (hd:qla k d=true) (x:k.den):
  ∃b es,v= .map (some b)∧bs=[b]∧w.heap[b]? =some (.map es es.size)∧es.size=xs.length∧
   ((qvR xs x=false∧(∀dd,qja xs x dd=dd)∧Instr.findNow d (keyV k x) es.toList 0=some none)∨
    ∃e q,qvR xs x=true∧(∀dd,qja xs x dd=q.2)∧es[qf9 xs x]? =some e∧xs[qf9 xs x]? =some q∧e.key=keyV k x∧qaA w F t q.2 e.val∧Instr.findNow d (keyV k x) es.toList 0=some (some (qf9 xs x,e.val))):=by
 obtain ⟨b,es,h1,h2,h3,h4,h5,h6⟩:=h
 refine ⟨b,es,h1,h2,h3,h4,?_⟩
 rcases qre hd x xs es.toList 0 (by simpa using h4) (fun j e p he hp=>(h6 j e p (by simpa using he) hp).1) with ⟨g1,e,g2,g3⟩|⟨g1,g2⟩
 ·right
  have hq:=List.getElem?_eq_getElem g1
  have he:es[qf9 xs x]? =some e:=by simpa using g2
  refine ⟨e,xs[qf9 xs x],by rw [qma]; simp [g1],fun dd=>by rw [qkF,hq]; rfl,he,hq,?_,(h6 _ e _ he hq).2.2,by simpa using g3⟩
  rw [(h6 _ e _ he hq).1]
  congr 1
  exact qwJ g1
 ·left
  refine ⟨by rw [qma]; simp [g1],fun dd=> ?_,g2⟩
  rw [qkF,List.getElem?_eq_none (by omega)]
  rfl
theorem qqX (hE:qbZ E C.P) (h:qar C σ a.tmps w own) (hp:qb9 (sit C σ a.tmps w own) p) {t:Nat} {m k:Operand} {ok:Bool} (hop:o.op= .lookup t m k ok) {f:Eff}
  (he:(qe2 E p o).run (qA σ)=some f) (hd:∀u∈f.upd,u.s<σ.length):qeG C o a w (qv σ f.upd):=by
 unfold qe2 at he
 rw [hop] at he
 simp only at he
 obtain ⟨m1,g1,he⟩:=Q.bind_some he
 obtain ⟨k1,g2,he⟩:=Q.bind_some he
 unfold qud at he
 obtain ⟨M,g3,he⟩:=Q.bind_some he
 obtain ⟨q,g4,he⟩:=Q.bind_some he
 split at he
 case isFalse=>cases he
 rename_i hty
 obtain ⟨kn,vn,d,i,z,e1,e2,e3,e4,e5,e6⟩:=hE.map t M.k M.v hty
 obtain ⟨hlt,hgs,htm,hrep⟩:=qpq h hp g1 g3
 have hkv:=qvJ h (qhe e3) (qaL h hp g2) g4
 obtain ⟨b,es,r1,r2,r3,r4,r5⟩:=hrep.look e3 q.1
 obtain ⟨v,hv,hrun⟩:∃v,qaA w (C.free w own) M.v (qja M.xs q.1 M.v.dflt) v∧∀cok,(Instr.lookup t (.map (some b)) (keyV M.k q.1) cok).run C.P w= .ok (if cok then .tuple #[v,.bool (qvR M.xs q.1)] else v) w:=by
  rcases r5 with ⟨s1,s2,s3⟩|⟨e,qq,s1,s2,s3,s4,s5,s6,s7⟩
  ·refine ⟨z,by rw [s2]; exact e6 _ _,fun cok=> ?_⟩
   simp [Instr.lookup,run_underlying e1,MapKept.run_getObj_map r3,MapKept.run_checkKey e2 (qeP e3 q.1),MapKept.run_findKey e2 s3,zeroValue,typeInfo,e4,e5,s1]
  ·refine ⟨e.val,by rw [s2]; exact s6,fun cok=> ?_⟩
   simp [Instr.lookup,run_underlying e1,MapKept.run_getObj_map r3,MapKept.run_checkKey e2 (qeP e3 q.1),MapKept.run_findKey e2 s7,s1]
 have hex:(execOp a.eval o).run C.P w= .ok (.value (if ok then .tuple #[v,.bool (qvR M.xs q.1)] else v)) w:=by
  unfold execOp
  rw [hop]
  simp only [Sem.run_bind,r1,hkv,hrun ok,Result.andThen_ok]
  rfl
 split at he
 ·have:=qS he
  subst this
  exact qa4 h hex hd hv
 ·have:=qS he
  subst this
  refine qR hex (h.dst0 hd ?_ (fun m hm=>by cases hm))
  exact ⟨[v,.bool (qvR M.xs q.1)],rfl,v,_,[],[],rfl,rfl,⟨rfl,hv⟩,_,[],[],[],rfl,rfl,⟨rfl,qaA.ofBool _ _ _⟩,rfl,rfl⟩
theorem qar.mapTurn (h:qar C σ tm w own) {s b:Nat} {k t:Ty} {xs ys:List (k.den×t.den)} {es es':Array MapEntry} (hs:s<σ.length) (hgs:(qA σ s).2= .mp k t xs) (hown:own s=[b]) (htm:tm.getD s undef= .map (some b))
  (hb:w.heap[b]? =some (.map es es.size)) (hk:k.key=true) (hsz:es'.size=ys.length)
  (hx:∀(i:Nat) (e:MapEntry) (p:k.den×t.den),es'[i]? =some e→ys[i]? =some p→e.key=keyV k p.1∧e.born=i∧qaA w (C.free w own) t p.2 e.val):
  qar C (qv σ [⟨s,false,.mp k t ys⟩]) tm { w with heap:=w.heap.setIfInBounds b (.map es' es'.size) } own:=by
 obtain ⟨hh1,hh2⟩:=MapKept.heap_set (o':= .map es' es'.size) hb
 have hsz':({ w with heap:=w.heap.setIfInBounds b (.map es' es'.size) } :World).heap.size=w.heap.size:=by simp
 have eS:qA (qv σ [⟨s,false,.mp k t ys⟩]) s=((qA σ s).1,.mp k t ys):=qU σ ⟨s,false,_⟩ hs
 have eN:∀x,x≠s→qA (qv σ [⟨s,false,.mp k t ys⟩]) x=qA σ x:=fun x hx=>qB σ ⟨s,false,_⟩ hx
 have hfree:∀x,C.free w own x→x<w.heap.size→C.free { w with heap:=w.heap.setIfInBounds b (.map es' es'.size) } own x∧x<({ w with heap:=w.heap.setIfInBounds b (.map es' es'.size) } :World).heap.size∧({ w with heap:=w.heap.setIfInBounds b (.map es' es'.size) } :World).heap[x]? =w.heap[x]? :=fun x hx hlt=>
  ⟨⟨hx.1,by rw [hsz']; exact hlt,hx.2.2⟩,by rw [hsz']; exact hlt,hh2 x fun e=>hx.2.2 s (by rw [hown,e]; simp)⟩
 refine h.update (fun x=>x=s) (qO _ _) rfl (fun x hx=>⟨eN x hx,rfl,rfl⟩) (fun x hx=> ?_) ?_ (fun x hx=>hx ▸ hs) (fun x hx=> ?_) (fun x x' b' hx hx' _ _=>hx.trans hx'.symm) (fun x hx=> ?_) (fun x hx m hm=> ?_)
 ·subst hx
  right
  refine ⟨by rw [eS],rfl,fun b' _ hp=> ?_⟩
  rw [htm] at hp
  cases hp
 ·refine ⟨rfl,rfl,rfl,Nat.le_of_eq hsz'.symm,fun x hlt hn=>hh2 x fun e=>hn ⟨s,rfl,by rw [hown,e]; simp⟩⟩
 ·subst hx
  exact ⟨fun b' hb'=> .inr ⟨x,rfl,hb'⟩,h.nodup x⟩
 ·subst hx
  rw [eS]
  refine ⟨b,es',htm,hown,hh1,hsz,hk,fun i e p hi hpp=> ?_⟩
  obtain ⟨q1,q2,q3⟩:=hx i e p hi hpp
  exact ⟨q1,q2,q3.1.keep hfree,q3.2⟩
 ·subst hx
  rw [eS] at hm
  cases hm
theorem qr3 {es:Array MapEntry} {i j:Nat} {g:MapEntry→MapEntry} {e:MapEntry} (h:(es.modify i g)[j]? =some e):∃e0,es[j]? =some e0∧e=if i=j then g e0 else e0:=by
 rw [Array.getElem?_modify] at h
 split at h
 ·rename_i hij
  cases he:es[j]? with
  |none=>rw [he] at h; cases h
  |some e0=>
   rw [he] at h
   injection h with h
   exact ⟨e0,rfl,by rw [if_pos hij]; exact h.symm⟩
 ·rename_i hij
  exact ⟨e,h,by rw [if_neg hij]⟩
theorem qns (hE:qbZ E C.P) (h:qar C σ a.tmps w own) (hp:qb9 (sit C σ a.tmps w own) p) {t:Nat} {m k x:Operand} (hop:o.op= .mapUpdate t m k x) {f:Eff}
  (he:(qe2 E p o).run (qA σ)=some f) (hd:∀u∈f.upd,u.s<σ.length):qeG C o a w (qv σ f.upd):=by
 unfold qe2 at he
 rw [hop] at he
 simp only at he
 split at he
 ·cases he
 rename_i hdst
 obtain ⟨m1,g1,he⟩:=Q.bind_some he
 obtain ⟨k1,g2,he⟩:=Q.bind_some he
 obtain ⟨x1,g2',he⟩:=Q.bind_some he
 unfold qn6 at he
 obtain ⟨M,g3,he⟩:=Q.bind_some he
 obtain ⟨q,g4,he⟩:=Q.bind_some he
 obtain ⟨r,g5,he⟩:=Q.bind_some he
 split at he
 case isFalse=>cases he
 rename_i hcond
 obtain ⟨hty,hns⟩:=hcond
 obtain ⟨fz,g6,he⟩:=Q.bind_some he
 have:=qS he
 subst this
 obtain ⟨kn,vn,d,i,z,e1,e2,e3,e4,e5,e6⟩:=hE.map t M.k M.v hty
 obtain ⟨hlt,hgs,htm,hrep⟩:=qpq h hp g1 g3
 have hkv:=qvJ h (qhe e3) (qaL h hp g2) g4
 have hxv:=qde h (qaL h hp g2') g5
 obtain ⟨σ1,own1,hst,hσ1,hl1,hown1,hgs1,hrx,hfr⟩:∃σ1 own1,qar C σ1 a.tmps w own1∧σ1=qv σ fz∧σ1.length=σ.length∧own1 M.s=own M.s∧(qA σ1 M.s).2= .mp M.k M.v M.xs∧qaA w (C.free w own1) M.v r.1 (a.eval x)∧(∀b,C.free w own b→C.free w own1 b):=by
  by_cases hf:M.v.flat=true
  ·rw [if_pos hf] at g6
   have:=Q.ret_some g6
   subst this
   exact ⟨σ,own,h,rfl,rfl,rfl,hgs,hxv.flat hf,fun _ hb=>hb⟩
  ·rw [if_neg hf] at g6
   obtain ⟨own',q1,q2,q3,q4⟩:=qda r.2 h g6
   exact ⟨qv σ fz,own',q1,rfl,qO _ _,(q3 _ hns).1,by rw [(q3 _ hns).2]; exact hgs,hxv.mono fun b hb _=>q4 b hb,fun b hb=>q4 b (.inl hb)⟩
 rw [qb0,←hσ1]
 have hrep1:qj9 w (C.free w own1) M.k M.v M.xs (a.eval m) (own1 M.s):=by
  have:=hst.at_ M.s
  rw [hgs1] at this
  have h2:a.tmps.getD M.s undef=a.eval m:=htm
  rw [h2] at this
  exact this
 obtain ⟨b,es,r1,r2,r3,r4,r5⟩:=hrep1.look e3 q.1
 obtain ⟨b',es',r1',r2',r3',r4',r5',r6'⟩:=hrep1
 have hbb:b'=b:=by rw [r1] at r1'; injection r1' with r1'; injection r1' with r1'; exact r1'.symm
 subst hbb
 have hee:es'=es:=by rw [r3] at r3'; injection r3' with r3'; injection r3' with r3' _; exact r3'.symm
 subst hee
 have htm':a.tmps.getD M.s undef= .map (some b'):=by rw [htm]; exact r1
 have put0:∀w2,qar C (qv σ1 [⟨M.s,false,.mp M.k M.v (qnP M.xs q.1 r.1)⟩]) a.tmps w2 own1→∃own',qar C (qv σ1 [⟨M.s,false,.mp M.k M.v (qnP M.xs q.1 r.1)⟩]) (a.put o.dst undef).tmps w2 own':=fun w2 hh=>by
  have:o.dst=none:=by cases ho:o.dst <;> simp [ho] at hdst⊢
  rw [this]
  exact ⟨own1,hh⟩
 rcases r5 with ⟨s1,s2,s3⟩|⟨e,qq,s1,s2,s3,s4,s5,s6,s7⟩
 ·have hn:¬qf9 M.xs q.1<M.xs.length:=by rw [qma] at s1; simpa using s1
  have hput:qnP M.xs q.1 r.1=M.xs++[(q.1,r.1)]:=by rw [qkp,if_neg hn]
  refine qis (w':= { w with heap:=w.heap.setIfInBounds b' (.map (es'.push { key:=keyV M.k q.1,val:=a.eval x,born:=es'.size }) (es'.push { key:=keyV M.k q.1,val:=a.eval x,born:=es'.size }).size) }) ?_ (put0 _ ?_)
  ·unfold execOp
   rw [hop]
   simp [r1,hkv,Instr.mapUpdate,run_underlying e1,MapKept.run_getObj_map r3,MapKept.run_checkKey e2 (qeP e3 q.1),MapKept.run_findKey e2 s3,MapKept.run_setObj_map _ r3]
  ·rw [hput]
   refine hst.mapTurn (by rw [hl1]; exact hlt) hgs1 r2 htm' r3 r5' (by simp [r4]) (fun j ee pp hj hpp=> ?_)
   rw [Array.getElem?_push] at hj
   split at hj
   ·rename_i hjs
    injection hj with hj
    subst hj
    rw [hjs,r4,List.getElem?_append_right (Nat.le_refl _)] at hpp
    simp at hpp
    subst hpp
    exact ⟨rfl,hjs.symm,hrx⟩
   ·rename_i hjs
    have hjl:j<es'.size:=(Array.getElem?_eq_some_iff.1 hj).1
    rw [List.getElem?_append_left (by omega)] at hpp
    exact r6' j ee pp hj hpp
 ·have hn:qf9 M.xs q.1<M.xs.length:=by rw [qma] at s1; simpa using s1
  have hput:qnP M.xs q.1 r.1=M.xs.set (qf9 M.xs q.1) (qq.1,r.1):=by rw [qkp,if_pos hn,qqO,s4]
  refine qis (w':= { w with heap:=w.heap.setIfInBounds b' (.map (es'.modify (qf9 M.xs q.1) fun e=> { e with key:=keyV M.k q.1,val:=a.eval x }) (es'.modify (qf9 M.xs q.1) fun e=> { e with key:=keyV M.k q.1,val:=a.eval x }).size) }) ?_ (put0 _ ?_)
  ·unfold execOp
   rw [hop]
   simp [r1,hkv,Instr.mapUpdate,run_underlying e1,MapKept.run_getObj_map r3,MapKept.run_checkKey e2 (qeP e3 q.1),MapKept.run_findKey e2 s7,s3,s5,MapKept.run_keyThatStays (qeP e3 q.1),MapKept.run_setObj_map _ r3]
  ·rw [hput]
   refine hst.mapTurn (by rw [hl1]; exact hlt) hgs1 r2 htm' r3 r5' (by simp [r4]) (fun j ee pp hj hpp=> ?_)
   obtain ⟨e0,hj2,rfl⟩:=qr3 hj
   by_cases hij:qf9 M.xs q.1=j
   ·subst hij
    rw [List.getElem?_set_self hn] at hpp
    injection hpp with hpp
    subst hpp
    rw [s3] at hj2
    injection hj2 with hj2
    subst hj2
    rw [if_pos rfl]
    obtain ⟨t1,t2,t3⟩:=r6' _ _ _ s3 s4
    exact ⟨by rw [←t1]; exact s5.symm,t2,hrx⟩
   ·rw [if_neg hij]
    rw [List.getElem?_set_ne hij] at hpp
    exact r6' j e0 pp hj2 hpp
end
end Go.Vi
namespace Go.Vi
open Go.RowKit
structure qpz (E:Env) (C:Ctx) (pin:List Nat):Prop where
 fns:qfu E C.P
 pins:∀k∈E.pins,∃b,C.pn k=some b
 sub:∀k b,C.pn k=some b→k∈pin
def quz (C:Ctx) (tm:Array Value):Prop:=∀k b,C.pn k=some b→tm.getD k undef=ptr b 0
section
variable {C:Ctx} {E:Env} {σ:St} {tm:Array Value} {a:Act} {w w':World} {own:Nat→List Nat} {o:Oper} {p:qh1} [Tabbed E C]
theorem qgu {a b:List Nat} (h:apart a b=true):∀s∈a,s∉b:=by
 intro s hs hb
 have:=List.all_eq_true.1 h s hs
 simp at this
 exact this hb
theorem qcm.turn {σ':St} {own':Nat→List Nat} (hl:σ'.length=σ.length): {ps:List PM} → {as:List Value} → {ss i inn:List Nat} →(∀s∈ss,own' s=own s)→qcm σ tm own ps as ss i inn→qcm σ' tm own' ps as ss i inn
 |[],_,_,_,_,_,h=>h
 | .io _::ps,_,_,_,_,hs,⟨s,r,b,i2,n1,n2,h1,h2,h3,h4,h5,h6,h7⟩=>by
  subst h1
  exact ⟨s,r,b,i2,n1,n2,rfl,h2,h3,by rw [hs s List.mem_cons_self]; exact h4,h5,by rw [hl]; exact h6,h7.turn hl fun s' hs'=>hs s' (List.mem_cons_of_mem _ hs')⟩
 | .ior _ _::ps,_,_,_,_,hs,⟨s,r,i1,i2,h1,h2,h3,h4,h5,h6,h7⟩=>by
  subst h1
  exact ⟨s,r,i1,i2,rfl,h2,by rw [hs s List.mem_cons_self]; exact h3,h4,h5,by rw [hl]; exact h6,h7.turn hl fun s' hs'=>hs s' (List.mem_cons_of_mem _ hs')⟩
 | .val _::ps,_,_,_,_,hs,h=>qcm.turn (ps:=ps) hl hs h
 | .own _ _::ps,_,_,_,_,hs,h=>qcm.turn (ps:=ps) hl hs h
 | .fn _ _::ps,_,_,_,_,hs,h=>qcm.turn (ps:=ps) hl hs h
 | .nil _ _::ps,_,_,_,_,hs,h=>qcm.turn (ps:=ps) hl hs h
 | .rd _::ps,_,_,_,_,hs,h=>qcm.turn (ps:=ps) hl hs h
theorem qm3:(ts:List Ty)→(as:List Value)→qcm σ tm own (valPs ts) as [] [] []
 |[],_=>⟨rfl,rfl,rfl⟩
 |_::r,as=>qm3 r as.tail
theorem quZ (h:qar C σ a.tmps w own) (hpt:quA (sit C σ a.tmps w own)) {D:qi} {fn:Nat} (hD:D.okT C.P E.tabs fn) (hFn:qfu E C.P) {os:List Op1} {vs:List Value} (ho:qml (sit C σ a.tmps w own) os vs) (hlt:∀o1∈os,∀s,o1.s=some s→o1.a≠ .undef→s<σ.length)
  {f:Eff} (he:(qww E o D os).run (qA σ)=some f) (hd:∀u∈f.upd,u.s<σ.length) (hc:qeV f.chk)
  (hr:(execOp a.eval o).run C.P w= .ok (.enter fn vs.toArray) w):qeG C o a w (qv σ f.upd):=by
 unfold qww at he
 obtain ⟨A,h1,he⟩:=Q.bind_some he
 split at he
 case isFalse=>cases he
 rename_i hcond
 simp only [Bool.and_eq_true] at hcond
 obtain ⟨⟨c1,c2⟩,c3⟩:=hcond
 obtain ⟨fz,h2,he⟩:=Q.bind_some he
 have:=Q.ret_some he
 subst this
 have hsem:∃y,D.sem A.x=some y:=by
  have:=hc _ (List.mem_singleton.2 rfl)
  exact Option.isSome_iff_exists.1 (by rw [qg7] at this; exact this)
 obtain ⟨y,hy⟩:=hsem
 simp only [hy,ql9,Option.getD_some] at hd⊢
 obtain ⟨g,i,inn,k1,k2,k3,k4,k5⟩:=qd9 hFn h hpt D.ps ho hlt h1
 have hdst:∀d,o.dst=some d→d∉A.gone++A.ios:=fun d hd=>qgu c3 d (by simp [hd])
 have hnd:=qeW c1
 have hap:=qgu c2
 by_cases hfl:(RMs.flat D.rs&&PMs.ioFlat D.ps)=true
 ·rw [if_pos hfl] at h2
  have:=Q.ret_some h2
  subst this
  simp only [Bool.and_eq_true] at hfl
  refine qmL h (fun hpre hgi=>hD.2 w _ A.x y vs g i (h.tabsE.keep fun b hb hlt=>⟨.inl (.inl hb),hlt,rfl⟩) k1 hpre hgi hy) k2 k3 k4 k5 (fun b hb=> ?_) (.inl hfl) hnd hdst (fun u hu=>hd u (List.mem_append_right _ (List.mem_append_right _ hu))) hr
  rcases hb with (hb|⟨s,hs,hb,_⟩)|hb
  ·exact .inl hb
  ·exact .inr (.inr ⟨s,hap s hs,hb⟩)
  ·exact .inr (.inl hb)
 ·rw [if_neg hfl] at h2
  obtain ⟨own',q1,q2,q3,q4⟩:=qda A.ow h h2
  have same:∀s∈A.gone++A.ios,own' s=own s:=fun s hs=>(q3 s fun hm=>hap s hm hs).1
  rw [qb0]
  have k1':qaD C.P w (fun b=>C.free w own' b∨b∈inn) D.ps A.x vs g i:=k1.mono (fun b hb=>hb.imp (q4 b) id) D.ps
  refine qmL q1 (F:=fun b=>C.free w own' b∨b∈inn) (fun hpre hgi=>hD.2 w _ A.x y vs g i (q1.tabsE.keep fun b hb hlt=>⟨.inl hb,hlt,rfl⟩) k1' hpre hgi hy) (fun b hb=> ?_) k3 (fun s hs=>by rw [qO]; exact k4 s hs) (k5.turn (qO _ _) fun s hs=>same s (List.mem_append_right _ hs)) (fun b hb=> ?_) (.inr fun b hb=>hb) hnd hdst (fun u hu=>by rw [qO]; exact hd u (List.mem_append_right _ (List.mem_append_right _ hu))) hr
  ·obtain ⟨s,hs,hb⟩:=k2 b hb
   exact ⟨s,hs,by rw [same s (List.mem_append_left _ hs)]; exact hb⟩
  ·rcases hb with hb|hb
   ·exact .inl hb
   ·exact .inr (.inl hb)
theorem qos (h:qar C σ a.tmps w own):∀(xs:List Operand) (ts:List Nat) {os:List Op1},(opds E p xs ts).run (qA σ)=some os→∀o1∈os,∀s,o1.s=some s→o1.a≠ .undef→s<σ.length
 |[],_,os,he=>by
  have:=Q.ret_some he
  subst this
  intro o1 ho1
  cases ho1
 |x::xs,ts,os,he=>by
  obtain ⟨o1,h1,he⟩:=Q.bind_some he
  obtain ⟨r,h2,he⟩:=Q.bind_some he
  have:=Q.ret_some he
  subst this
  intro o2 ho2
  rcases List.mem_cons.1 ho2 with rfl|ho2
  ·exact qp1 h1
  ·exact qos h xs ts.tail h2 o2 ho2
theorem qve (h:qar C σ a.tmps w own) (hpt:quA (sit C σ a.tmps w own)) (hFn:qfu E C.P) {ts us:List Ty} {φ:denL ts→Option (denL us)} {fv:Value} (hfv:qoU C.P w (C.free w own) ts us φ fv) {os:List Op1} {vs:List Value} (ho:qml (sit C σ a.tmps w own) os vs) (hlt:∀o1∈os,∀s,o1.s=some s→o1.a≠ .undef→s<σ.length)
  {f:Eff} (he:(qwC E o ts us φ os).run (qA σ)=some f) (hd:∀u∈f.upd,u.s<σ.length) (hc:qeV f.chk)
  (hr:∀fn caps,fv= .func (.func fn) #[] caps→(∀as w',(callFunc fn as).run C.P w'= .ok (.enter fn as) w')→(execOp a.eval o).run C.P w= .ok (.enter fn (vs.toArray++caps)) w):qeG C o a w (qv σ f.upd):=by
 unfold qwC at he
 obtain ⟨A,h1,he⟩:=Q.bind_some he
 obtain ⟨fz,h2,he⟩:=Q.bind_some he
 have:=Q.ret_some he
 subst this
 have hsem:∃y,φ (qu9 ts A.x)=some y:=by
  have:=hc _ (List.mem_singleton.2 rfl)
  exact Option.isSome_iff_exists.1 (by rw [qg7] at this; exact this)
 obtain ⟨y,hy⟩:=hsem
 simp only [hy,ql9,Option.getD_some] at hd⊢
 obtain ⟨g,i,inn,k1,k2,k3,k4,k5⟩:=qd9 hFn h hpt (valPs ts) ho hlt h1
 obtain ⟨e1,e2,e3⟩:=qmu ts h1
 obtain ⟨k6,rfl,rfl⟩:=qjs ts k1
 obtain ⟨fn,caps,hfv1,hfv2,hfv3⟩:=hfv
 have hio:PMs.ioFlat (valPs ts)=true:=qlA ts
 have hups:qfO (valPs ts) (PMs.ioDflt (valPs ts)) []=[]:=qmG ts _
 have hinn:inn=[]:=(qlv ts k5).2.2
 subst hinn
 let D:qi:=⟨valPs ts,valRs us,fun _=>none⟩
 have fin:∀ {σ2:St} {own2:Nat→List Nat} {F:Nat→Prop},qar C σ2 a.tmps w own2→(∀b,C.free w own b→F b)→qdM w F ts (qu9 ts A.x) vs→(∀b,F b→C.free w own2 b∨b∈[]∨(∃s,s∉[]++[]∧b∈own2 s))→
   ((RMs.flat (valRs us)=true∧PMs.ioFlat (valPs ts)=true)∨∀b,F b→C.free w own2 b∨b∈[])→(∀u∈qcg o (qjP (valRs us) (qt0 us y)),u.s<σ2.length)→
   qeG C o a w (qv σ2 (qcg o (qjP (valRs us) (qt0 us y)))):=by
  intro σ2 own2 F hst hfr hval hF1 hF2 hd2
  have:=qmL (D:=D) (f:=fn) (y:=(qt0 us y,PMs.ioDflt (valPs ts))) (as:=vs.toArray++caps) (gone:=[]) (ios:=[]) (g:=[]) (i:=[]) (inn:=[]) (al:=vs) (F:=F) hst (fun _ _=> ?_) (fun b hb=>by cases hb) (fun _=>List.nodup_nil) (fun s hs=>by cases hs) (qm3 ts vs) hF1 hF2 List.nodup_nil (fun d _ hm=>by cases hm) hd2 (hr fn caps hfv1 hfv2)
  ·have e:([]:List Nat).map (fun s=>(⟨s,true,.undef⟩:U))++qfO D.ps (PMs.ioDflt (valPs ts)) []++qcg o (qjP D.rs (qt0 us y))=qcg o (qjP (valRs us) (qt0 us y)):=by
    show qfO (valPs ts) (PMs.ioDflt (valPs ts)) []++_=_
    rw [hups]; rfl
   simp only at this
   rw [e] at this
   exact this
  ·refine Calls.mono (hfv3 w F (qu9 ts A.x) y vs (fun b hb hlt=>⟨hfr b hb,hlt,rfl⟩) hval hy) ?_
   rintro e w' ⟨rs,rfl,hvs,hk⟩
   have m1:qa5 w' (qmj w F [] [] []) (qdu D.rs (qt0 us y)) rs []:=qiW us (hvs.mono us fun b hb=>⟨hb.elim .inl fun h=> .inr (.inr h),by simp,by simp⟩)
   have m2:qdl w' (qmj w F [] [] []) D.ps (PMs.ioDflt (valPs ts)) vs []:=qiK ts
   have m0:∀b∈([]:List Nat),(b∈([]:List Nat)∨w.heap.size≤b)∧b<w'.heap.size:=fun b hb=>by cases hb
   exact ⟨_,rfl,rs,[],rfl,List.nodup_nil,m0,m1,m2,hk.mono fun _ h=>h.elim⟩
 by_cases hfl:RMs.flat (valRs us)=true
 ·rw [if_pos hfl] at h2
  have:=Q.ret_some h2
  subst this
  refine fin h (fun b hb=> .inl (.inl hb)) k6 (fun b hb=> ?_) (.inl ⟨hfl,hio⟩) hd
  rcases hb with (hb|⟨s,hs,hb,_⟩)|hb
  ·exact .inl hb
  ·exact .inr (.inr ⟨s,by simp,hb⟩)
  ·cases hb
 ·rw [if_neg hfl] at h2
  obtain ⟨own',q1,q2,q3,q4⟩:=qda A.ow h h2
  rw [qb0]
  refine fin (F:=fun b=>C.free w own' b∨b∈([]:List Nat)) q1 (fun b hb=> .inl (q4 b (.inl hb))) (k6.mono ts fun b hb=>hb.imp (q4 b) id) (fun b hb=>hb.elim .inl fun h=>by cases h) (.inr fun b hb=>hb) (fun u hu=>by rw [qO]; exact hd u (List.mem_append_right _ hu))
theorem qtA (hE:qbZ E C.P) (hF:qfu E C.P) (h:qar C σ a.tmps w own) (hp:qb9 (sit C σ a.tmps w own) p) {c:Call} (hop:o.op= .call c) {f:Eff}
  (he:(qe2 E p o).run (qA σ)=some f) (hd:∀u∈f.upd,u.s<σ.length) (hc:qeV f.chk):qeG C o a w (qv σ f.upd):=by
 unfold qe2 at he
 rw [hop] at he
 simp only at he
 split at he
 ·rename_i b hb
  obtain ⟨os,h1,he⟩:=Q.bind_some he
  refine qqv hE h (qoO h hp _ _ h1) (qos h _ _ h1) he hd hc ⟨o.type,(c.args.map fun| .const _=>true|_=>false),?_⟩
  unfold execOp
  rw [hop]
  simp only [resolve,hb,Sem.run_bind,Sem.run_pure,Result.andThen_ok,invoke]
  rw [show c.args.map a.eval=(c.args.toList.map a.eval).toArray from by apply Array.ext'; simp,show c.argTypes.toList.toArray=c.argTypes from by simp]
  rfl
 ·rename_i x hx
  split at he
  ·rename_i fn
   split at he
   ·rename_i D hD
    obtain ⟨os,h1,he⟩:=Q.bind_some he
    refine quZ h hp.1 (hF fn D hD) hF (qoO h hp _ _ h1) (qos h _ _ h1) he hd hc ?_
    unfold execOp
    rw [hop]
    have e1:a.eval (.func fn)= .func (.func fn) #[] #[]:=rfl
    simp only [resolve,hx,e1,Deferred.ofValue,Sem.run_bind,Sem.run_pure,Result.andThen_ok,invoke]
    rw [show c.args.map a.eval=(c.args.toList.map a.eval).toArray from by apply Array.ext'; simp]
    simpa using (hF fn D hD).1 (c.args.toList.map a.eval).toArray w
   ·cases he
  ·rename_i s
   rw [Q.run_get] at he
   have hop1:=qaL h hp (E:=E) (tid:=0) (x:= .tmp s) (o1:=⟨some s,(qA σ s).1,qb8 p (qA σ s).2⟩) rfl
   split at he
   case h_2=>cases he
   rename_i ts us φ hst
   obtain ⟨os,h1,he⟩:=Q.bind_some he
   have hfv:qoU C.P w (C.free w own) ts us φ (a.eval (.tmp s)):=by
    have:=hop1.unowned (by rw [hst]; rfl)
    rw [hst] at this
    exact this.2
   refine qve h hp.1 hF hfv (qoO h hp _ _ h1) (qos h _ _ h1) he hd hc fun fn caps hfe henter=> ?_
   unfold execOp
   rw [hop]
   simp only [resolve,hx,hfe,Deferred.ofValue,Sem.run_bind,Sem.run_pure,Result.andThen_ok,invoke]
   rw [show c.args.map a.eval=(c.args.toList.map a.eval).toArray from by apply Array.ext'; simp]
   simpa using henter ((c.args.toList.map a.eval).toArray++caps) w
  ·cases he
 ·cases he
theorem qs2 (hE:qbZ E C.P) (hF:qfu E C.P) (hpn:∀k∈E.pins,∃b,C.pn k=some b) (h:qar C σ a.tmps w own) (hp:qb9 (sit C σ a.tmps w own) p) {f:Eff}
  (he:(qe2 E p o).run (qA σ)=some f) (hd:∀u∈f.upd,u.s<σ.length) (hc:qeV f.chk):qeG C o a w (qv σ f.upd):=by
 cases hop:o.op with
 |move x=>exact qpy hpn h hp (as:=false) hop he hd hc
 |assign x=>exact qpy hpn h hp (as:=true) hop he hd hc
 |pick c x y=>exact qtx h hp hop he hd hc
 |alloc t=>exact qsx hE h hp hop he hd hc
 |box t x=>exact quJ hE h hp hop he hd hc
 |build t ps=>exact qrP hE h hp hop he hd hc
 |buildSlice t n ps=>exact qm5 hE h hp hop he hd hc
 |load t x=>exact qtZ hE h hp hop he hd hc
 |store t x y=>exact qrX hE h hp hop he hd hc
 |nilCheck x=>exact qoB h hp hop he hd hc
 |binOp op t x y b=>exact qr4 hE h hp hop he hd hc
 |unOp op t x=>exact qtP h hp hop he hd hc
 |convert s d x=>exact qpU hE h hp hop he hd hc
 |slice t x lo hi mx=>
  cases mx with
  |none=>exact qsd hE h hp hop he hd hc
  |some m=>unfold qe2 at he; rw [hop] at he; cases he
 |fieldAddr t x f=>exact qnG hE h hp hop he hd hc
 |field t x f=>exact qrK hE h hp hop he hd hc
 |indexAddr t x ix=>exact qnC hE h hp hop he hd hc
 |index t x ix=>exact qso hE h hp hop he hd hc
 |extract x i=>exact qpQ h hp hop he hd hc
 |makeSlice t x y=>exact qnz hE h hp hop he hd hc
 |call c=>exact qtA hE hF h hp hop he hd hc
 |makeFunc fn first caps=>exact qo5 hF h hop he hd
 |makeMap t r=>exact qpe hE h hop he hd
 |lookup t m k ok=>exact qqX hE h hp hop he hd
 |mapUpdate t m k x=>exact qns hE h hp hop he hd
 |_=>unfold qe2 at he; rw [hop] at he; cases he
end
end Go.Vi
namespace Go.Vi
open Go.RowKit
section
variable {C:Ctx} {E:Env} {σ:St} {tm:Array Value} {a:Act} {w w':World} {own:Nat→List Nat} {o:Oper} {p:qh1} [Tabbed E C]
theorem qiH (h:qar C σ tm w own):∀(n s:Nat) (want:Bool) {p:qh1},(qeq n s want).run (qA σ)=some p→
  (∃b r,p=(s,(qA σ s).1,want,b)::r)∧(tm.getD s undef= .bool want→(∀q∈p,(sit C σ tm w own).ver q.1=q.2.1∧(sit C σ tm w own).tm q.1= .bool q.2.2.1∧q.2.2.2=q.2.2.1)∧qnJ p=true)
 |0,_,_,_,he=>by cases he
 |n+1,s,want,p,he=>by
  simp only [qeq,Q.run_get] at he
  have hat:=h.at_ s
  split at he
  ·rename_i b hb
   have:=Q.ret_some he
   subst this
   rw [hb] at hat
   have hv:tm.getD s undef= .bool b:=qaA.bool hat.2
   refine ⟨⟨b,[],rfl⟩,fun ht=> ?_⟩
   rw [hv] at ht
   injection ht with ht
   subst ht
   refine ⟨fun q hq=> ?_,by cases b <;> rfl⟩
   simp at hq
   subst hq
   exact ⟨rfl,hv,rfl⟩
  ·rename_i s2 v2 w2 b hb
   obtain ⟨r,h1,he⟩:=Q.bind_some he
   obtain ⟨⟨b3,r3,hr⟩,hp⟩:=qiH h n s2 w2 h1
   rw [hr] at he
   simp only at he
   split at he
   ·rename_i hv
    have:=Q.ret_some he
    subst this
    rw [hb] at hat
    obtain ⟨g1,g2⟩:=hat.2 hv
    refine ⟨⟨b,_,rfl⟩,fun ht=> ?_⟩
    have hw2:tm.getD s2 undef= .bool w2:=by
     by_cases hc:tm.getD s2 undef= .bool w2
     ·exact hc
     ·have:=g2 hc
      rw [ht] at this
      cases this
    obtain ⟨k1,k2⟩:=hp hw2
    have hv2:tm.getD s undef= .bool b:=qaA.bool (g1 hw2).2
    rw [hv2] at ht
    injection ht with ht
    subst ht
    rw [hr] at k1 k2
    refine ⟨fun q hq=> ?_,?_⟩
    ·rcases List.mem_cons.1 hq with rfl|hq
     ·exact ⟨rfl,hv2,rfl⟩
     ·exact k1 q hq
    ·have e:lit b b=true:=by cases b <;> rfl
     simp only [qnJ,e,Bool.true_and]
     simpa [qnJ] using k2
   ·cases he
  ·cases he
theorem qji (h:qar C σ tm w own):∀(n s:Nat) (want:Bool) {p:qh1},(qeq n s want).run (qA σ)=some p→qnJ p=true→tm.getD s undef= .bool want
 |0,_,_,_,he,_=>by cases he
 |n+1,s,want,p,he,hc=>by
  simp only [qeq,Q.run_get] at he
  have hat:=h.at_ s
  split at he
  ·rename_i b hb
   have:=Q.ret_some he
   subst this
   rw [hb] at hat
   have hv:tm.getD s undef= .bool b:=qaA.bool hat.2
   rw [hv]
   cases want <;> cases b <;> simp_all [qnJ,lit]
  ·rename_i s2 v2 w2 b hb
   obtain ⟨r,h1,he⟩:=Q.bind_some he
   obtain ⟨⟨b3,r3,hr⟩,hp⟩:=qiH h n s2 w2 h1
   have ih:=qji h n s2 w2 h1
   rw [hr] at he ih
   simp only at he
   split at he
   ·rename_i hv
    have:=Q.ret_some he
    subst this
    rw [hb] at hat
    have hc2:lit want b=true∧qnJ ((s2,(qA σ s2).1,w2,b3)::r3)=true:=by simpa [qnJ] using hc
    have hv2:tm.getD s undef= .bool b:=qaA.bool ((hat.2 hv).1 (ih hc2.2)).2
    rw [hv2]
    cases want <;> cases b <;> simp_all [lit]
   ·cases he
  ·cases he
theorem qiJ {σ':St} :∀(n s:Nat) (want:Bool) {p:qh1},(qeq n s want).run (qA σ)=some p→(∀q∈p,qA σ' q.1=qA σ q.1)→(qeq n s want).run (qA σ')=some p
 |0,_,_,_,he,_=>by cases he
 |n+1,s,want,p,he,hq=>by
  simp only [qeq,Q.run_get] at he⊢
  split at he
  ·rename_i b hb
   have:=Q.ret_some he
   subst this
   have e:=hq (s,(qA σ s).1,want,b) (by simp)
   simp only at e
   rw [e,hb]
   rfl
  ·rename_i s2 v2 w2 b hb
   obtain ⟨r,h1,he⟩:=Q.bind_some he
   split at he
   ·rename_i s3 v3 w3 b3 r3
    split at he
    ·rename_i hv
     have:=Q.ret_some he
     subst this
     have e:=hq (s,(qA σ s).1,want,b) (by simp)
     simp only at e
     have ih:=qiJ n s2 w2 h1 (fun q hm=>hq q (List.mem_cons_of_mem _ hm))
     rw [e,hb]
     simp only [Q.run_bind,ih,Option.bind_some,if_pos hv]
     rfl
    ·cases he
   ·cases he
  ·cases he
theorem qp3:∀(ms:List (Nat×Nat)) {u:Unit},(qrz ms).run (qA σ)=some u→∀m∈ms,m.2≤(qA σ m.1).1
 |[],_,_,m,hm=>by cases hm
 |m::r,u,he,m',hm=>by
  simp only [qrz,Q.run_get] at he
  split at he
  ·rename_i hle
   rcases List.mem_cons.1 hm with rfl|hm
   ·exact hle
   ·exact qp3 r he m' hm
  ·cases he
theorem qpG (s:Nat):∀(us:List U) (σ:St),s<σ.length→(qA (qv σ us) s).1=(qA σ s).1+qk1 s us
 |[],_,_=>rfl
 |u::us,σ,hs=>by
  have ih:=qpG s us (q7 σ u) (by rw [qax]; exact hs)
  show (qA (qv (q7 σ u) us) s).1=_
  rw [ih]
  by_cases e:u.s=s
  ·subst e
   rw [qU σ u hs]
   cases hb:u.bump
   ·simp [qk1,hb]
   ·simp [qk1,hb]; omega
  ·rw [qB σ u (fun h=>e h.symm)]
   have e2:(u.s == s)=false:=by simpa using e
   simp [qk1,e2]
theorem qlI:(us:List U)→ {σ:St} → {s:Nat} →s∉us.map (·.s)→qA (qv σ us) s=qA σ s
 |[],_,_,_=>rfl
 |u::us,σ,s,h=>by
  simp only [List.map_cons,List.mem_cons,not_or] at h
  exact (qlI us (σ:=q7 σ u) h.2).trans (qB _ _ h.1)
def isPb:AV→Prop
 | .pbox _ _ _=>True
 |_=>False
theorem qeU {us:List U} {d:List Nat} {tm':Array Value} {w':World} {own':Nat→List Nat} (h:qar C σ tm w own) (hk:∀s,s∉d→tm'.getD s undef=tm.getD s undef):
  ∀(l:List Nat) {τ:St} {us':List U},τ.length=σ.length→qar C τ tm' w' own'→(∀x,qA τ x=qA (qv σ us) x∨(isPb (qA σ x).2∧isPb (qA τ x).2))→
  (qgj us d l).run (qA σ)=some us'→(∀u∈us',u.s<σ.length)→qar C (qv τ us') tm' w' own'
 |[],τ,us',hl,hst,hi,he,hd=>by
  have:=Q.ret_some he
  subst this
  exact hst
 |t::r,τ,us',hl,hst,hi,he,hd=>by
  simp only [qgj,Q.run_get] at he
  split at he
  case h_2=>exact qeU h hk r hl hst hi he hd
  rename_i s v off ht
  split at he
  case isFalse=>exact qeU h hk r hl hst hi he hd
  rename_i hcond
  simp only [Bool.and_eq_true,Bool.not_eq_true',bne_iff_ne,ne_eq] at hcond
  obtain ⟨⟨⟨⟨c1,c2⟩,c3⟩,c4⟩,c5⟩:=hcond
  rw [Q.run_get] at he
  split at he
  case h_2=>exact qeU h hk r hl hst hi he hd
  rename_i cc hs
  split at he
  case isFalse=>exact qeU h hk r hl hst hi he hd
  rename_i hv
  obtain ⟨l',h1,he⟩:=Q.bind_some he
  have:=Q.ret_some he
  subst this
  have hsd:s∉d:=by simpa using c3
  have htd:t∉d:=by simpa using c4
  have htl:t<σ.length:=hd _ List.mem_cons_self
  have hsl:s<σ.length:=Classical.byContradiction fun hn=>by
   have:qA σ s=(0,.undef):=by simp only [qA,List.getD_eq_getElem?_getD,List.getElem?_eq_none (Nat.not_lt.1 hn),Option.getD_none]
   rw [this] at hs
   cases hs
  have htu:t∉us.map (·.s):=fun hm=>by
   obtain ⟨u,hu,e⟩:=List.mem_map.1 hm
   have:us.any (fun u=>u.s == t)=true:=List.any_eq_true.2 ⟨u,hu,by simp [e]⟩
   rw [this] at c2
   cases c2
  have hpt:isPb (qA τ t).2:=by
   rcases hi t with e|e
   ·rw [e,qlI us htu,ht]; trivial
   ·exact e.2
  have hown:own' t=[]:=by
   have hr:=hst.rep t (by omega)
   generalize (qA τ t).2=q at hpt hr
   cases q <;> first|exact hpt.elim|exact hr.1
  have hver:(qA τ s).1=(qA σ s).1+qk1 s us:=by
   rcases hi s with e|e
   ·rw [e]; exact qpG s us σ hsl
   ·rw [hs] at e; exact e.1.elim
  have hptr:∃b,tm'.getD s undef=ptr b 0∧tm'.getD t undef=ptr b off:=by
   have hr:=h.rep t htl
   rw [ht] at hr
   obtain ⟨b,q1,q2⟩:=hr.2 hv
   exact ⟨b,(hk s hsd).trans q1,(hk t htd).trans q2⟩
  have htl':t<τ.length:=by omega
  have eT:qA (q7 τ ⟨t,true,.pbox s (v+qk1 s us) off⟩) t=((qA τ t).1+1,.pbox s (v+qk1 s us) off):=qU τ ⟨t,true,_⟩ htl'
  have eN:∀x,x≠t→qA (q7 τ ⟨t,true,.pbox s (v+qk1 s us) off⟩) x=qA τ x:=fun x hx=>qB τ ⟨t,true,.pbox s (v+qk1 s us) off⟩ hx
  refine qeU h hk r (τ:=q7 τ ⟨t,true,.pbox s (v+qk1 s us) off⟩) (by rw [qax]; exact hl) ?_ ?_ h1 (fun u hu=>hd u (List.mem_cons_of_mem _ hu))
  ·refine hst.update (fun x=>x=t) (qax _ _) rfl (fun x hx=>⟨eN x hx,rfl,rfl⟩) (fun x hx=> .inl (by subst hx; rw [eT]; exact Nat.lt_succ_self _)) (qc7.refl _ _) (fun x hx=>by subst hx; exact htl') (fun x hx=> ?_) (fun x y b hx hy _ _=>hx.trans hy.symm) (fun x hx=> ?_) (fun x hx m hm=> ?_)
   ·subst hx; rw [hown]; exact ⟨fun b hb=>(by cases hb),List.nodup_nil⟩
   ·subst hx
    rw [eT,hown]
    exact ⟨rfl,fun _=>hptr⟩
   ·subst hx
    rw [eT] at hm
    simp only [AV.mentions,List.mem_singleton] at hm
    subst hm
    rw [eN s c5,hver,hv]
    exact Nat.le_refl _
  ·intro x
   by_cases hx:x=t
   ·subst hx
    exact .inr ⟨by rw [ht]; trivial,by rw [eT]; trivial⟩
   ·rw [eN x hx]; exact hi x
theorem qsa (h:qar C σ a.tmps w own) {f0 f:Eff} (hok:(∀u∈f0.upd,u.s<σ.length)→qeV f0.chk→qeG C o a w (qv σ f0.upd)) (he:(qo8 E o f0).run (qA σ)=some f) (hd:∀u∈f.upd,u.s<σ.length) (hc:qeV f.chk):qeG C o a w (qv σ f.upd):=by
 unfold qo8 at he
 split at he
 ·have:=Q.ret_some he
  subst this
  exact hok hd hc
 split at he
 case isFalse=>
  have:=Q.ret_some he
  subst this
  exact hok hd hc
 obtain ⟨us,h1,he⟩:=Q.bind_some he
 have:=Q.ret_some he
 subst this
 intro K Q1 hK
 refine hok (fun u hu=>hd u (List.mem_append_left _ hu)) hc K Q1 fun a' w' own' hde hst=>hK a' w' own' hde ?_
 rw [qb0]
 exact qeU h (fun s hs=>hde.2 s (fun e=>hs (by simp [e]))) _ (qO _ _) hst (fun x=> .inl rfl) h1 fun u hu=>hd u (List.mem_append_right _ hu)
def GOpOk (C:Ctx) (ops:Array Oper) (o:Oper) (a:Act) (w:World) (τ:St):Prop:=
 ∀(K:Act→World→Prop) (Q:Exit→Act→World→Prop),(∀a' w' own',qvp o a a'→qar C τ a'.tmps w' own'→K a' w')→
  if Region.wanted o (yielded ops a.tmps) then o.wp C.P a w K Q else K (a.put o.dst undef) w
theorem qrW {ops:Array Oper} {j d:Nat} (hj:(ops[j]?).bind (·.dst)=some d) {tm:Array Value} (want:Bool):(yielded ops tm j=some want)↔tm.getD d undef= .bool want:=by
 unfold yielded
 rw [hj]
 simp only [Option.bind_some]
 cases hd:tm[d]? with
 |none=>
  have:tm.getD d undef=undef:=by simp [Array.getD_eq_getD_getElem?,hd]
  rw [this]
  simp [undef]
 |some v=>
  have:tm.getD d undef=v:=by simp [Array.getD_eq_getD_getElem?,hd]
  rw [this]
  cases v <;> simp
theorem qqb (hE:qbZ E C.P) {pin:List Nat} (hF:qpz E C pin) (hpc:quz C a.tmps) (h:qar C σ a.tmps w own) {ops:Array Oper} {g:Option (Nat×Bool)} (hg:qg8 ops o=some g) {f:Eff}
  (he:(qjh E g o).run (qA σ)=some f) (hd:∀u∈f.upd,u.s<σ.length) (hc:qeV f.chk):GOpOk C ops o a w (qv σ f.upd):=by
 intro K Q1 hK
 unfold qg8 at hg
 split at hg
 ·rename_i hgd
  injection hg with hg
  subst hg
  have hw:Region.wanted o (yielded ops a.tmps)=true:=by simp [Region.wanted,hgd]
  rw [if_pos hw]
  obtain ⟨f0,h0,he⟩:=Q.bind_some he
  exact qsa h (fun hd hc=>qs2 hE hF.fns hF.pins h ⟨hpc,fun q hq=>by cases hq⟩ h0 hd hc) he hd hc K Q1 hK
 ·rename_i j want hgd
  split at hg
  case h_2=>cases hg
  rename_i s hj
  injection hg with hg
  subst hg
  have hw:Region.wanted o (yielded ops a.tmps)=true↔a.tmps.getD s undef= .bool want:=by
   rw [←qrW hj want]
   simp [Region.wanted,hgd]
  obtain ⟨pth,h1,he⟩:=Q.bind_some he
  obtain ⟨f1,h2,he⟩:=Q.bind_some he
  obtain ⟨⟨b',r',hp⟩,hpo⟩:=qiH h 8 s want h1
  subst hp
  split at he
  case h_2=>cases he
  rename_i d av d' s1 v1 w1 b1 r1 hupd hdst hpath
  simp only [List.cons.injEq,Prod.mk.injEq] at hpath
  obtain ⟨⟨rfl,rfl,rfl,rfl⟩,rfl⟩:=hpath
  split at he
  case isFalse=>cases he
  rename_i hcond
  obtain ⟨hdd,hun,hnu,hpa⟩:=hcond
  subst hdd
  obtain ⟨_,hm0,he⟩:=Q.bind_some he
  have:=Q.ret_some he
  subst this
  have hms:=qp3 _ hm0
  have hdl:d<σ.length:=hd _ (List.mem_singleton.2 rfl)
  have hpd:∀q∈(s,(qA σ s).1,want,b')::r',q.1≠d:=fun q hq=>by
   have:=List.all_eq_true.1 hpa q hq
   simpa using this
  have hsd:s≠d:=hpd _ List.mem_cons_self
  by_cases hwant:Region.wanted o (yielded ops a.tmps)=true
  ·rw [if_pos hwant]
   have ht:=hw.1 hwant
   obtain ⟨k1,k2⟩:=hpo ht
   have hc1:qeV f1.chk:=by
    intro x hx
    have:=hc (!(qnJ ((s,(qA σ s).1,want,b')::r'))||x) (List.mem_map.2 ⟨x,hx,rfl⟩)
    rw [k2] at this
    simpa using this
   have hd1:∀u∈f1.upd,u.s<σ.length:=by rw [hupd]; intro u hu; simp at hu; rw [hu]; exact hdl
   have hok:=qs2 hE hF.fns hF.pins h ⟨hpc,k1⟩ h2 hd1 hc1
   rw [hupd] at hok
   refine hok K Q1 fun a' w' own0 hde hst0=> ?_
   have eA0:qA (qv σ [⟨d,true,av⟩]) d=((qA σ d).1+1,av):=qU σ ⟨d,true,av⟩ hdl
   obtain ⟨own',hst,_,_,_⟩:=hst0.freeze d
   rw [eA0] at hst
   generalize hτ:q7 (qv σ [⟨d,true,av⟩]) ⟨d,false,av.freeze⟩=τ at hst
   have hlen:τ.length=σ.length:=by rw [←hτ,qax,qO]
   have eA:qA τ d=((qA σ d).1+1,av.freeze):=by
    rw [←hτ,qU (qv σ [⟨d,true,av⟩]) ⟨d,false,av.freeze⟩ (by rw [qO]; exact hdl),eA0]
    rfl
   have eA1:∀x,x≠d→qA τ x=qA σ x:=fun x hx=>by
    rw [←hτ,qB _ _ hx]
    exact qB σ ⟨d,true,av⟩ hx
   have eB:qA (qv σ [⟨d,true,.grd s (qA σ s).1 want av.freeze⟩]) d=((qA σ d).1+1,.grd s (qA σ s).1 want av.freeze):=qU σ ⟨d,true,_⟩ hdl
   have eN:∀x,x≠d→qA (qv σ [⟨d,true,.grd s (qA σ s).1 want av.freeze⟩]) x=qA τ x:=fun x hx=>by
    rw [eA1 x hx]
    exact qB σ ⟨d,true,.grd s (qA σ s).1 want av.freeze⟩ hx
   have eV:∀x,(qA (qv σ [⟨d,true,.grd s (qA σ s).1 want av.freeze⟩]) x).1=(qA τ x).1:=fun x=>by
    by_cases hx:x=d
    ·subst hx; rw [eA,eB]
    ·rw [eN x hx]
   have hsure:a'.tmps.getD s undef= .bool want:=qji hst 8 s want (qiJ 8 s want h1 fun q hq=>eA1 q.1 (hpd q hq)) k2
   have hat:=hst.at_ d
   rw [eA] at hat
   have hbs:own' d=[]∧qaN (sit C τ a'.tmps w' own') av.freeze (a'.tmps.getD d undef) []:=by
    refine ⟨?_,hat.unowned hun⟩
    generalize av.freeze=fv at hun hnu hat
    cases fv with
    |undef=>cases hnu
    |own _ _ _=>cases hun
    |agg _=>cases hun
    |box _=>cases hun
    |tup _=>cases hun
    |mp _ _ _=>cases hun
    |_=>exact hat.1
   have kp:∀ {av':AV} {v:Value} {bs:List Nat},qaN (sit C τ a'.tmps w' own') av' v bs→qaN (sit C (qv σ [⟨d,true,.grd s (qA σ s).1 want av.freeze⟩]) a'.tmps w' own') av' v bs:=fun hr=>
    qaN.keep (X:=sit C τ a'.tmps w' own') (X':=sit C (qv σ [⟨d,true,.grd s (qA σ s).1 want av.freeze⟩]) a'.tmps w' own') ⟨rfl,rfl⟩ (fun b hb hlt=>⟨hb,hlt,rfl⟩) (fun _ _ _=>rfl) (fun m _ hv=>⟨(eV m.1).symm.trans hv,rfl,fun b hb _=>⟨hb,rfl⟩⟩) hr
   refine hK a' w' own' hde ⟨by rw [hst.size,hlen,qO],hst.kept,hst.mine,hst.nodup,hst.apart,fun x hx=>hst.outside x (by rw [qO] at hx; rw [hlen]; exact hx),fun x hx=> ?_,fun x m hm=> ?_⟩
   ·by_cases hxd:x=d
    ·subst hxd
     rw [eB,hbs.1]
     exact ⟨rfl,fun _=>⟨fun _=>kp hbs.2,fun hn=>absurd hsure hn⟩⟩
    ·rw [eN x hxd]
     exact kp (hst.rep x (by rw [qO] at hx; rw [hlen]; exact hx))
   ·rw [eV]
    by_cases hxd:x=d
    ·subst hxd
     rw [eB] at hm
     rcases List.mem_cons.1 hm with rfl|hm
     ·rw [eA1 s hsd]
      exact Nat.le_refl _
     ·exact hst.wf x m (by rw [eA]; exact hm)
    ·rw [eN x hxd] at hm
     exact hst.wf x m hm
  ·rw [if_neg hwant]
   have hnt:¬a.tmps.getD s undef= .bool want:=fun e=>hwant (hw.2 e)
   have hdu:qcg o (.grd s (qA σ s).1 want av.freeze)=[⟨d,true,.grd s (qA σ s).1 want av.freeze⟩]:=by unfold qcg; rw [hdst]
   obtain ⟨own',hst⟩:=h.dst0 (o:=o) (av:= .grd s (qA σ s).1 want av.freeze) (v:=undef) (by rw [hdu]; exact hd) ⟨rfl,fun _=>⟨fun e=>absurd e hnt,fun _=>rfl⟩⟩ (fun m hm=>by
    rcases List.mem_cons.1 hm with rfl|hm
    ·exact Nat.le_refl _
    ·exact hms m hm)
   rw [hdu] at hst
   exact hK _ _ own' (qiw o a _) hst
end
end Go.Vi
namespace Go.Vi
open Go.RowKit
section
variable {C:Ctx} {E:Env} {σ τ:St} {tm:Array Value} {a:Act} {w w':World} {own:Nat→List Nat} {o:Oper} {p:qh1} [Tabbed E C]
theorem qar.retag (h:qar C σ tm w own) (hl:τ.length=σ.length) (B:Nat→Prop) (hsame:∀s,¬B s→qA τ s=qA σ s)
  (hB:∀s,B s→(qA τ s).2.mentions=[]∧∀v,qaN (sit C σ tm w own) (qA σ s).2 v (own s)→qaN (sit C σ tm w own) (qA τ s).2 v (own s))
  (hv:∀s m,¬B s→m∈(qA σ s).2.mentions→B m.1→m.2<(qA τ m.1).1):qar C τ tm w own:=by
 refine ⟨by rw [hl]; exact h.size,h.kept,h.mine,h.nodup,h.apart,fun s hs=>h.outside s (by omega),fun s hs=> ?_,fun s m hm=> ?_⟩
 ·have hr:=h.rep s (by omega)
  by_cases hb:B s
  ·obtain ⟨k1,k2⟩:=hB s hb
   exact qaN.keep (X:=sit C σ tm w own) (X':=sit C τ tm w own) ⟨rfl,rfl⟩ (fun b hb hlt=>⟨hb,hlt,rfl⟩) (fun _ _ _=>rfl) (fun m hm=>by rw [k1] at hm; cases hm) (k2 _ hr)
  ·rw [hsame s hb]
   refine qaN.keep (X:=sit C σ tm w own) (X':=sit C τ tm w own) ⟨rfl,rfl⟩ (fun b hb hlt=>⟨hb,hlt,rfl⟩) (fun _ _ _=>rfl) (fun m hm hv'=> ?_) hr
   have hv':(qA τ m.1).1=m.2:=hv'
   by_cases hbm:B m.1
   ·have:=hv s m hb hm hbm
    omega
   ·rw [hsame m.1 hbm] at hv'
    exact ⟨hv',rfl,fun b hb _=>⟨hb,rfl⟩⟩
 ·by_cases hb:B s
  ·rw [(hB s hb).1] at hm; cases hm
  ·rw [hsame s hb] at hm
   by_cases hbm:B m.1
   ·exact Nat.le_of_lt (hv s m hb hm hbm)
   ·rw [hsame m.1 hbm]
    exact h.wf s m hm
theorem qgR {F:Nat→Prop} (b:Bool): {x y r:BC} → {cs:List Value} → {bs:List Nat} →qgM.joinB b x y=some r→qbr w F (bif b then x else y) cs bs→qbr w F r cs bs
 | .val t x,.val u y,r,cs,bs,hj,h=>by
  simp only [qgM.joinB] at hj
  split at hj
  ·rename_i z hz
   injection hj with hj
   subst hj
   obtain ⟨e1,e2⟩:=Ty.as_some hz
   subst e1
   have e2:y=z:=e2
   subst e2
   cases b <;> exact h
  ·cases hj
 | .own et e xs,.own et' e' ys,r,cs,bs,hj,h=>by
  simp only [qgM.joinB] at hj
  split at hj
  ·rename_i het
   subst het
   split at hj
   ·rename_i z hz
    injection hj with hj
    subst hj
    obtain ⟨e1,e2⟩:=Ty.as_some hz
    injection e1 with e1
    subst e1
    have e2:ys=z:=e2
    subst e2
    cases b <;> exact h
   ·cases hj
  ·cases hj
 | .pair c d,.pair c' d',r,cs,bs,hj,h=>by
  simp only [qgM.joinB] at hj
  split at hj
  ·rename_i r1 r2 h1 h2
   split at hj
   ·injection hj with hj
    subst hj
    cases b
    ·obtain ⟨c1,c2,b1,b2,k1,k2,k3,k4⟩:=h
     exact ⟨c1,c2,b1,b2,k1,k2,qgR false h1 k3,qgR false h2 k4⟩
    ·obtain ⟨c1,c2,b1,b2,k1,k2,k3,k4⟩:=h
     exact ⟨c1,c2,b1,b2,k1,k2,qgR true h1 k3,qgR true h2 k4⟩
   ·cases hj
  ·cases hj
 | .hole n,.hole m,r,cs,bs,hj,h=>by
  simp only [qgM.joinB] at hj
  split at hj
  ·rename_i hnm
   injection hj with hj
   subst hj; subst hnm
   cases b <;> exact h
  ·cases hj
 | .val _ _,.own _ _ _,_,_,_,hj,_=>by cases hj
 | .val _ _,.pair _ _,_,_,_,hj,_=>by cases hj
 | .val _ _,.hole _,_,_,_,hj,_=>by cases hj
 | .own _ _ _,.val _ _,_,_,_,hj,_=>by cases hj
 | .own _ _ _,.pair _ _,_,_,_,hj,_=>by cases hj
 | .own _ _ _,.hole _,_,_,_,hj,_=>by cases hj
 | .pair _ _,.val _ _,_,_,_,hj,_=>by cases hj
 | .pair _ _,.own _ _ _,_,_,_,hj,_=>by cases hj
 | .pair _ _,.hole _,_,_,_,hj,_=>by cases hj
 | .hole _,.val _ _,_,_,_,hj,_=>by cases hj
 | .hole _,.own _ _ _,_,_,_,hj,_=>by cases hj
 | .hole _,.pair _ _,_,_,_,hj,_=>by cases hj
theorem qn9 {X:Sit} (b:Bool) {x y:AV} {v:Value} {bs:List Nat} (h:qaN X (bif b then x else y) v bs):qaN X (qgM b x y) v bs∧(qgM b x y).mentions=[]:=by
 unfold qgM
 split
 ·rename_i t x u y
  split
  ·rename_i z hz
   obtain ⟨e1,e2⟩:=Ty.as_some hz
   subst e1
   have e2:y=z:=e2
   subst e2
   refine ⟨?_,rfl⟩
   cases b <;> exact h
  ·exact ⟨trivial,rfl⟩
 ·rename_i et e xs et' e' ys
  split
  ·rename_i het
   subst het
   split
   ·rename_i z hz
    obtain ⟨e1,e2⟩:=Ty.as_some hz
    injection e1 with e1
    subst e1
    have e2:ys=z:=e2
    subst e2
    refine ⟨?_,rfl⟩
    cases b <;> exact h
   ·exact ⟨trivial,rfl⟩
  ·exact ⟨trivial,rfl⟩
 ·rename_i c d
  split
  ·rename_i r hr
   refine ⟨?_,rfl⟩
   cases b
   ·obtain ⟨b0,cs,bs',te,k1,k2,k3,k4⟩:=h
    exact ⟨b0,cs,bs',te,k1,k2,qgR false hr k3,k4⟩
   ·obtain ⟨b0,cs,bs',te,k1,k2,k3,k4⟩:=h
    exact ⟨b0,cs,bs',te,k1,k2,qgR true hr k3,k4⟩
  ·exact ⟨trivial,rfl⟩
 ·rename_i k t xs k' t' ys
  split
  ·rename_i het
   obtain ⟨e1,e2⟩:=het
   subst e1
   subst e2
   refine ⟨?_,rfl⟩
   cases b <;> exact h
  ·exact ⟨trivial,rfl⟩
 ·rename_i et e et' e' ys
  split
  ·rename_i het
   subst het
   split
   ·rename_i z hz
    obtain ⟨e1,e2⟩:=Ty.as_some hz
    injection e1 with e1
    subst e1
    have e2:ys=z:=e2
    subst e2
    refine ⟨?_,rfl⟩
    cases b
    ·exact h
    ·obtain ⟨rfl,rfl⟩:=h
     exact qah.nil_ _ _ _ _
   ·exact ⟨trivial,rfl⟩
  ·exact ⟨trivial,rfl⟩
 ·rename_i et e xs et' e'
  split
  ·rename_i het
   obtain ⟨rfl,rfl⟩:=het
   refine ⟨?_,rfl⟩
   cases b
   ·obtain ⟨rfl,rfl⟩:=h
    exact qah.nil_ _ _ _ _
   ·exact h
  ·exact ⟨trivial,rfl⟩
 ·rename_i et e et' e'
  split
  ·rename_i het
   obtain ⟨rfl,rfl⟩:=het
   refine ⟨?_,rfl⟩
   cases b <;> exact h
  ·exact ⟨trivial,rfl⟩
 ·exact ⟨trivial,rfl⟩
theorem BC.toVal_rep {F:Nat→Prop} :(t:Ty)→ {c:BC} → {x:t.den} → {cs:List Value} → {bs:List Nat} →c.toVal t=some x→qbr w F c cs bs→qbr w F (.val t x) cs bs
 |t,.val u y,x,cs,bs,hs,h=>by
  have hs:Ty.as (t:=u) t y=some x:=by cases t <;> exact hs
  exact ⟨h.1,h.2.as hs⟩
 | .pair a b,.pair c d,x,cs,bs,hs,h=>by
  simp only [BC.toVal] at hs
  split at hs
  ·rename_i y z h1 h2
   injection hs with hs
   subst hs
   obtain ⟨c1,c2,b1,b2,k1,k2,k3,k4⟩:=h
   have r1:=BC.toVal_rep a h1 k3
   have r2:=BC.toVal_rep b h2 k4
   exact ⟨by rw [k2,r1.1,r2.1]; rfl,c1,c2,k1,r1.2,r2.2⟩
  ·cases hs
 |t,.own _ _ _,x,cs,bs,hs,h=>by cases t <;> cases hs
 |t,.hole _,x,cs,bs,hs,h=>by cases t <;> cases hs
 | .int _,.pair _ _,x,cs,bs,hs,h=>by cases hs
 | .bool,.pair _ _,x,cs,bs,hs,h=>by cases hs
 | .str,.pair _ _,x,cs,bs,hs,h=>by cases hs
 | .unit,.pair _ _,x,cs,bs,hs,h=>by cases hs
 | .slice _,.pair _ _,x,cs,bs,hs,h=>by cases hs
 | .arr _ _,.pair _ _,x,cs,bs,hs,h=>by cases hs
theorem BC.toShape_rep {F:Nat→Prop} :(s:qeI)→ {c:BC} → {x:s.den} → {cs:List Value} → {bs:List Nat} →c.toShape s=some x→qbr w F c cs bs→qbr w F (s.un x) cs bs
 | .val t,c,x,cs,bs,hs,h=>by
  exact BC.toVal_rep t hs h
 | .own et e,.own et' e' xs,x,cs,bs,hs,h=>by
  simp only [BC.toShape] at hs
  split at hs
  ·rename_i het
   subst het
   obtain ⟨e1,e2⟩:=Ty.as_some hs
   injection e1 with e1
   subst e1
   have e2:xs=x:=e2
   subst e2
   exact h
  ·cases hs
 | .pair a b,.pair c d,x,cs,bs,hs,h=>by
  simp only [BC.toShape] at hs
  split at hs
  ·rename_i y z h1 h2
   injection hs with hs
   subst hs
   obtain ⟨c1,c2,b1,b2,k1,k2,k3,k4⟩:=h
   exact ⟨c1,c2,b1,b2,k1,k2,BC.toShape_rep a h1 k3,BC.toShape_rep b h2 k4⟩
  ·cases hs
 | .hole n,.hole m,x,cs,bs,hs,h=>by
  simp only [BC.toShape] at hs
  split at hs
  ·rename_i hnm
   subst hnm
   exact h
  ·cases hs
 | .own _ _,.val _ _,_,_,_,hs,_=>by cases hs
 | .own _ _,.pair _ _,_,_,_,hs,_=>by cases hs
 | .own _ _,.hole _,_,_,_,hs,_=>by cases hs
 | .pair _ _,.val _ _,_,_,_,hs,_=>by cases hs
 | .pair _ _,.own _ _ _,_,_,_,hs,_=>by cases hs
 | .pair _ _,.hole _,_,_,_,hs,_=>by cases hs
 | .hole _,.val _ _,_,_,_,hs,_=>by cases hs
 | .hole _,.own _ _ _,_,_,_,hs,_=>by cases hs
 | .hole _,.pair _ _,_,_,_,hs,_=>by cases hs
theorem AV.toShape_rep {X:Sit} (s:qf0) {av:AV} {x:s.den} {v:Value} {bs:List Nat} (hs:av.toShape s=some x) (h:qaN X av v bs):qaN X (s.un x) v bs∧(s.un x).mentions=[]:=by
 cases s with
 |val t=>
  cases av with
  |val u y=>exact ⟨⟨h.1,h.2.as hs⟩,rfl⟩
  |_=>cases hs
 |own et e=>
  cases av with
  |own et' e' xs=>
   simp only [AV.toShape] at hs
   split at hs
   ·rename_i het
    subst het
    obtain ⟨e1,e2⟩:=Ty.as_some hs
    injection e1 with e1
    subst e1
    have e2:xs=x:=e2
    subst e2
    exact ⟨h,rfl⟩
   ·cases hs
  |_=>cases hs
 |box b=>
  cases av with
  |box c=>
   obtain ⟨b0,cs,bs',te,k1,k2,k3,k4⟩:=h
   exact ⟨⟨b0,cs,bs',te,k1,k2,BC.toShape_rep b hs k3,k4⟩,rfl⟩
  |_=>cases hs
 |mp k t=>
  cases av with
  |mp k' t' xs=>
   simp only [AV.toShape] at hs
   split at hs
   ·rename_i het
    obtain ⟨e1,e2⟩:=het
    subst e1
    subst e2
    injection hs with hs
    subst hs
    exact ⟨h,rfl⟩
   ·cases hs
  |_=>cases hs
theorem qiU (σ:St) (s:Nat) (e:Ent) (x:Nat):qA (σ.set s e) x=if x=s∧s<σ.length then e else qA σ x:=by
 unfold qA
 simp only [List.getD_eq_getElem?_getD,List.getElem?_set]
 by_cases hx:s=x
 ·subst hx
  by_cases hl:s<σ.length
  ·simp [hl]
  ·simp [hl]
 ·simp [hx]
  intro e1
  exact absurd e1.symm hx
theorem qno:(wr:List Nat)→(σ:St)→(wr.foldl (fun σ s=>σ.set s ((qA σ s).1+1,.undef)) σ).length=σ.length∧
  ∀x,(x∈wr∧x<σ.length→(qA σ x).1<(qA (wr.foldl (fun σ s=>σ.set s ((qA σ s).1+1,.undef)) σ) x).1∧(qA (wr.foldl (fun σ s=>σ.set s ((qA σ s).1+1,.undef)) σ) x).2= .undef)∧
   (¬(x∈wr∧x<σ.length)→qA (wr.foldl (fun σ s=>σ.set s ((qA σ s).1+1,.undef)) σ) x=qA σ x)
 |[],σ=>⟨rfl,fun x=>⟨fun h=>(by cases h.1),fun _=>rfl⟩⟩
 |s::wr,σ=>by
  obtain ⟨h1,h2⟩:=qno wr (σ.set s ((qA σ s).1+1,.undef))
  rw [List.foldl_cons]
  refine ⟨by rw [h1]; simp,fun x=> ?_⟩
  obtain ⟨k1,k2⟩:=h2 x
  rw [List.length_set] at k1 k2
  by_cases hx:x∈wr∧x<σ.length
  ·refine ⟨fun _=> ?_,fun hn=>absurd ⟨List.mem_cons_of_mem _ hx.1,hx.2⟩ hn⟩
   obtain ⟨g1,g2⟩:=k1 hx
   refine ⟨Nat.lt_of_le_of_lt ?_ g1,g2⟩
   rw [qiU]
   split
   ·rename_i h; rw [h.1]; exact Nat.le_succ _
   ·exact Nat.le_refl _
  ·rw [k2 hx]
   rw [qiU]
   by_cases hs:x=s∧s<σ.length
   ·rw [if_pos hs]
    refine ⟨fun _=>⟨by rw [hs.1]; exact Nat.lt_succ_self _,rfl⟩,fun hn=>absurd ⟨by rw [hs.1]; exact List.mem_cons_self,by rw [hs.1]; exact hs.2⟩ hn⟩
   ·rw [if_neg hs]
    refine ⟨fun hn=> ?_,fun _=>rfl⟩
    rcases List.mem_cons.1 hn.1 with rfl|hm
    ·exact absurd ⟨rfl,hn.2⟩ hs
    ·exact absurd ⟨hm,hn.2⟩ hx
theorem qmN:(l:List (Nat×qf0))→(x:liveDen l)→(σ:St)→(l.map (·.1)).Nodup→(qgB l x σ).length=σ.length∧(∀s,s∉l.map (·.1)→qA (qgB l x σ) s=qA σ s)∧
  ∀(τ:St),qqm l τ=some x→∀s,s∈l.map (·.1)→s<σ.length→(qA (qgB l x σ) s).1=(qA σ s).1∧∀X v bs,qaN X (qA τ s).2 v bs→qaN X (qA (qgB l x σ) s).2 v bs∧(qA (qgB l x σ) s).2.mentions=[]
 |[],_,σ,_=>⟨rfl,fun _ _=>rfl,fun _ _ s hs=>by cases hs⟩
 |p::r,x,σ,hn=>by
  have hn:=List.nodup_cons.1 hn
  obtain ⟨h1,h2,h3⟩:=qmN r x.2 (σ.set p.1 ((qA σ p.1).1,p.2.un x.1)) hn.2
  refine ⟨by simp only [qgB]; rw [h1]; simp,fun s hs=> ?_,fun τ hp s hs hl=> ?_⟩
  ·have hs':s≠p.1∧s∉r.map (·.1):=by simpa using hs
   simp only [qgB]
   rw [h2 s hs'.2,qiU,if_neg (fun h=>hs'.1 h.1)]
  ·simp only [qqm] at hp
   split at hp
   case h_2=>cases hp
   rename_i y z e1 e2
   injection hp with hp
   subst hp
   simp only [qgB]
   by_cases hsp:s=p.1
   ·subst hsp
    rw [h2 _ hn.1,qiU,if_pos ⟨rfl,hl⟩]
    exact ⟨rfl,fun X v bs h=>AV.toShape_rep p.2 e1 h⟩
   ·have hsr:s∈r.map (·.1):=by
     rcases List.mem_cons.1 hs with e|e
     ·exact absurd e hsp
     ·exact e
    obtain ⟨g1,g2⟩:=h3 τ e2 s hsr (by rw [List.length_set]; exact hl)
    rw [qiU,if_neg (fun h=>hsp h.1)] at g1
    exact ⟨g1,g2⟩
def Fr (wr:List Nat) (σ σ':St):Prop:=σ'.length=σ.length∧∀s,s∉wr→qA σ' s=qA σ s
theorem qpH {A:qoT} (hlive:∀q∈A.live,q.1∈A.wr) (hn:(A.live.map (·.1)).Nodup) (x:liveDen A.live):Fr A.wr σ (qgU A σ x):=by
 obtain ⟨h1,h2⟩:=qno A.wr σ
 obtain ⟨k1,k2,_⟩:=qmN A.live x (A.wr.foldl (fun σ s=>σ.set s ((qA σ s).1+1,.undef)) σ) hn
 refine ⟨k1.trans h1,fun s hs=> ?_⟩
 rw [qgU,k2 s fun hm=>by
  obtain ⟨q,hq,e⟩:=List.mem_map.1 hm
  exact hs (e ▸ hlive q hq)]
 exact (h2 s).2 fun h=>hs h.1
theorem qar.head (h:qar C τ tm w own) {A:qoT} (hlive:∀q∈A.live,q.1∈A.wr) (hn:(A.live.map (·.1)).Nodup) (hwf:∀s,∀m∈(qA σ s).2.mentions,m.2≤(qA σ m.1).1) (hfr:Fr A.wr σ τ) {x:liveDen A.live} (hx:qqm A.live τ=some x):
  qar C (qgU A σ x) tm w own:=by
 obtain ⟨h1,h2⟩:=qno A.wr σ
 obtain ⟨k1,k2,k3⟩:=qmN A.live x (A.wr.foldl (fun σ s=>σ.set s ((qA σ s).1+1,.undef)) σ) hn
 have hver:∀s,s∈A.wr→s<σ.length→(qA σ s).1<(qA (qgU A σ x) s).1:=by
  intro s hs hl
  by_cases hm:s∈A.live.map (·.1)
  ·rw [qgU,(k3 τ hx s hm (by rw [h1]; exact hl)).1]
   exact ((h2 s).1 ⟨hs,hl⟩).1
  ·rw [qgU,k2 s hm]
   exact ((h2 s).1 ⟨hs,hl⟩).1
 refine h.retag ((k1.trans h1).trans hfr.1.symm) (fun s=>s∈A.wr∧s<σ.length) (fun s hs=> ?_) (fun s hs=> ?_) (fun s m hs hm hb=> ?_)
 ·by_cases hw:s∈A.wr
  ·have hl:¬s<σ.length:=fun hl=>hs ⟨hw,hl⟩
   have e1:qA (qgU A σ x) s=(0,.undef):=by simp [qA,List.getD,List.getElem?_eq_none (show (qgU A σ x).length≤s by rw [qgU,k1,h1]; omega)]
   have e2:qA τ s=(0,.undef):=by simp [qA,List.getD,List.getElem?_eq_none (show τ.length≤s by rw [hfr.1]; omega)]
   rw [e1,e2]
  ·rw [(qpH hlive hn x).2 s hw,hfr.2 s hw]
 ·by_cases hm:s∈A.live.map (·.1)
  ·obtain ⟨_,g⟩:=k3 τ hx s hm (by rw [h1]; exact hs.2)
   refine ⟨?_,fun v hv=>(g _ v _ hv).1⟩
   have hat:=h.at_ s
   exact (g _ _ _ hat).2
  ·rw [qgU,k2 s hm,((h2 s).1 hs).2]
   exact ⟨rfl,fun _ _=>trivial⟩
 ·have e:qA τ s=qA σ s:=by
   by_cases hw:s∈A.wr
   ·have hl:¬s<σ.length:=fun hl=>hs ⟨hw,hl⟩
    have e1:qA σ s=(0,.undef):=by simp [qA,List.getD,List.getElem?_eq_none (show σ.length≤s by omega)]
    have e2:qA τ s=(0,.undef):=by simp [qA,List.getD,List.getElem?_eq_none (show τ.length≤s by rw [hfr.1]; omega)]
    rw [e1,e2]
   ·exact hfr.2 s hw
  rw [e] at hm
  exact Nat.lt_of_le_of_lt (hwf s m hm) (hver m.1 hb.1 hb.2)
end
end Go.Vi
namespace Go.Vi
open Go.RowKit
def qcE (S:Nat→Bool):Nat→List qfF→St→St
 |_,[],σ=>σ
 |i,f::r,σ=>qcE S (i+1) r (if S i then qv σ f.us else σ)
def qfb (l:List qfF) (σ:St):St:=l.foldl (fun σ f=>qv σ f.us) σ
theorem qbY (S:Nat→Bool):(l:List qfF)→(i:Nat)→(σ:St)→(qcE S i l σ).length=σ.length
 |[],_,_=>rfl
 |f::r,i,σ=>by
  simp only [qcE]
  rw [qbY S r]
  split
  ·rw [qO]
  ·rfl
theorem qpg {σ τ:St} {u:U} {s:Nat} (hl:σ.length=τ.length) (h:qA σ s=qA τ s):qA (q7 σ u) s=qA (q7 τ u) s:=by
 by_cases hs:s=u.s
 ·subst hs
  by_cases hlt:u.s<σ.length
  ·rw [qU σ u hlt,qU τ u (by omega),h]
  ·have e1:q7 σ u=σ:=by simp only [q7]; exact List.set_eq_of_length_le (by omega)
   have e2:q7 τ u=τ:=by simp only [q7]; exact List.set_eq_of_length_le (by omega)
   rw [e1,e2,h]
 ·rw [qB _ _ hs,qB _ _ hs,h]
theorem qhg:(us:List U)→ {σ τ:St} → {s:Nat} →σ.length=τ.length→qA σ s=qA τ s→qA (qv σ us) s=qA (qv τ us) s
 |[],_,_,_,_,h=>h
 |u::us,σ,τ,s,hl,h=>qhg us (σ:=q7 σ u) (τ:=q7 τ u) (by rw [qax,qax,hl]) (qpg hl h)
theorem qhm:(us:List U)→ {σ:St} → {s:Nat} →s∉us.map (·.s)→qA (qv σ us) s=qA σ s
 |[],_,_,_=>rfl
 |u::us,σ,s,h=>by
  simp only [List.map_cons,List.mem_cons,not_or] at h
  exact (qhm us (σ:=q7 σ u) h.2).trans (qB _ _ h.1)
theorem qdZ {S S':Nat→Bool} {s:Nat} :(l:List qfF)→(i:Nat)→ {σ τ:St} →σ.length=τ.length→qA σ s=qA τ s→(∀k f,l[k]? =some f→s∈f.wr→S (i+k)=S' (i+k))→qA (qcE S i l σ) s=qA (qcE S' i l τ) s
 |[],_,_,_,_,h,_=>h
 |f::r,i,σ,τ,hl,h,hS=>by
  simp only [qcE]
  refine qdZ r (i+1) ?_ ?_ fun k f' hk hs=>by
   have:=hS (k+1) f' (by simpa using hk) hs
   rwa [show i+(k+1)=i+1+k by omega] at this
  ·split <;> split <;> simp only [qO,hl]
  ·by_cases hs:s∈f.wr
   ·have:=hS 0 f rfl hs
    rw [Nat.add_zero] at this
    rw [←this]
    split
    ·exact qhg _ hl h
    ·exact h
   ·have n1:∀ρ:St,qA (qv ρ f.us) s=qA ρ s:=fun ρ=>qhm f.us hs
    split <;> split <;> simp only [n1,h]
theorem qoQ {σ τ:St} (hl:σ.length=τ.length) (h:∀s,qA σ s=qA τ s):σ=τ:=by
 apply List.ext_getElem?
 intro s
 by_cases hs:s<σ.length
 ·have:=h s
  simp only [qA,List.getD_eq_getElem?_getD,List.getElem?_eq_getElem hs,List.getElem?_eq_getElem (show s<τ.length by omega),Option.getD_some] at this
  rw [List.getElem?_eq_getElem hs,List.getElem?_eq_getElem (by omega),this]
 ·rw [List.getElem?_eq_none (by omega),List.getElem?_eq_none (by omega)]
theorem qjN:(l:List qfF)→(i:Nat)→(σ:St)→qcE (fun _=>false) i l σ=σ
 |[],_,_=>rfl
 |f::r,i,σ=>by simp only [qcE,Bool.false_eq_true,if_false]; exact qjN r (i+1) σ
theorem qdX:(l:List qfF)→(i m:Nat)→(σ:St)→qcE (fun k=>decide (k<i+m)) i l σ=qfb (l.take m) σ
 |[],i,m,σ=>by simp [qcE,qfb]
 |f::r,i,0,σ=>by
  have:qcE (fun k=>decide (k<i+0)) i (f::r) σ=qcE (fun _=>false) i (f::r) σ:=by
   apply qoQ
   ·rw [qbY,qbY]
   ·intro s
    exact qdZ _ _ rfl rfl fun k f _ _=>by simp
  rw [this,qjN]
  rfl
 |f::r,i,m+1,σ=>by
  simp only [qcE]
  rw [if_pos (by simp)]
  have:=qdX r (i+1) m (qv σ f.us)
  rw [show i+1+m=i+(m+1) by omega] at this
  rw [this]
  rfl
theorem Q.run_congr {α:Type} {lk lk':Nat→Ent} :(q:Q α)→(∀s∈q.log lk,lk' s=lk s)→q.run lk'=q.run lk
 | .ret _,_=>rfl
 | .fail,_=>rfl
 | .get s k,h=>by
  have h0:=h s List.mem_cons_self
  simp only [Q.run,h0]
  exact Q.run_congr (k (lk s)) fun s' hs'=>h s' (List.mem_cons_of_mem _ hs')
def qsT (E:Env) (ops:Array Oper) (σ:St) (l:List Oper) (fl:List qfF) (c:List Bool):Prop:=
 fl.length=l.length∧∀k o ft,l[k]? =some o→fl[k]? =some ft→∃g f,qg8 ops o=some g∧(qjh E g o).run (qA (qfb (fl.take k) σ))=some f∧ft= { rd:=(qjh E g o).log (qA (qfb (fl.take k) σ)),us:=f.upd } ∧(∀u∈f.upd,u.s<σ.length)∧∀b∈f.chk,b∈c
theorem qls {E:Env} {wr:List Nat} {ops:Array Oper} :(l:List Oper)→ {σ σ':St} → {c c':List Bool} → {fs fs':List qfF} →qen E wr ops l σ c fs=some (σ',c',fs')→
  ∃fl,fs'=fl.reverse++fs∧qsT E ops σ l fl c'∧σ'=qfb fl σ∧∀b∈c,b∈c'
 |[],σ,σ',c,c',fs,fs',he=>by
  simp only [qen,Option.some.injEq,Prod.mk.injEq] at he
  obtain ⟨rfl,rfl,rfl⟩:=he
  exact ⟨[],rfl,⟨rfl,fun k o ft h=>by simp at h⟩,rfl,fun b h=>h⟩
 |o::r,σ,σ',c,c',fs,fs',he=>by
  simp only [qen] at he
  split at he
  ·cases he
  rename_i g hg
  split at he
  ·cases he
  rename_i f hf
  split at he
  case isFalse=>cases he
  rename_i hu
  obtain ⟨fl,h1,⟨h2,h3⟩,h4,h5⟩:=qls r he
  refine ⟨{ rd:=(qjh E g o).log (qA σ),us:=f.upd } ::fl,by rw [h1]; simp,⟨by simp [h2],fun k o' ft hk hft=> ?_⟩,by rw [h4]; rfl,fun b hb=>h5 b (List.mem_append_left _ hb)⟩
  cases k with
  |zero=>
   simp at hk hft
   subst hk; subst hft
   refine ⟨g,f,hg,hf,rfl,fun u hm=> ?_,fun b hb=>h5 b (List.mem_append_right _ hb)⟩
   have:=List.all_eq_true.1 hu u hm
   simp at this
   exact this.2
  |succ k=>
   obtain ⟨g',f',k1,k2,k3,k4,k5⟩:=h3 k o' ft (by simpa using hk) (by simpa using hft)
   exact ⟨g',f',k1,k2,k3,fun u hm=>by have:=k4 u hm; rwa [qO] at this,k5⟩
theorem qlD {ms:List Nat} {j:Nat} :(es:List Nat)→(m:Nat)→(es.foldl (fun m j=>m|||(1 <<< j)|||ms.getD j 0) m).testBit j=true→m.testBit j=true∨j∈es∨∃k∈es,(ms.getD k 0).testBit j=true
 |[],m,h=> .inl h
 |e::es,m,h=>by
  rcases qlD es _ h with h|h|⟨k,hk,h⟩
  ·simp only [Nat.testBit_or,Bool.or_eq_true] at h
   rcases h with (h|h)|h
   ·exact .inl h
   ·refine .inr (.inl ?_)
    rw [Nat.one_shiftLeft,Nat.testBit_two_pow] at h
    have:e=j:=by simpa using h
    rw [this]
    exact List.mem_cons_self
   ·exact .inr (.inr ⟨e,List.mem_cons_self,h⟩)
  ·exact .inr (.inl (List.mem_cons_of_mem _ h))
  ·exact .inr (.inr ⟨k,List.mem_cons_of_mem _ hk,h⟩)
theorem qoc {m:Nat} {f:qfF} :(l:List qfF)→(j:Nat)→qoH m f j l=true→∀k g,l[k]? =some g→m.testBit (j+k)=true∨qf4 f g=true
 |[],_,_,k,g,h=>by simp at h
 |x::r,j,hp,k,g,h=>by
  simp only [qoH,Bool.and_eq_true,Bool.or_eq_true] at hp
  cases k with
  |zero=>simp at h; subst h; exact hp.1
  |succ k=>
   have:=qoc r (j+1) hp.2 k g (by simpa using h)
   rwa [show j+1+k=j+(k+1) by omega] at this
theorem qpS:(os:List Oper)→(fs:List qfF)→(ms:List Nat)→(done:List qfF)→ms.length=done.length→qjd os fs ms done=true→
  ∃M:List Nat,M.length=os.length∧fs.length=os.length∧∀k o f,os[k]? =some o→fs[k]? =some f→(∀j∈qcj o,j<ms.length+k)∧(ms++M).getD (ms.length+k) 0=qiu ((ms++M).take (ms.length+k)) (qcj o)∧
   ∀j g,j<ms.length+k→(done++fs)[j]? =some g→((ms++M).getD (ms.length+k) 0).testBit j=true∨qf4 f g=true
 |[],[],_,_,_,_=>⟨[],rfl,rfl,fun k o f h=>by simp at h⟩
 |o::os,f::fs,ms,done,hl,h=>by
  simp only [qjd,Bool.and_eq_true] at h
  obtain ⟨h1,h2,h3⟩:=h
  obtain ⟨M,k1,k2,k3⟩:=qpS os fs _ _ (by simp [hl]) h3
  refine ⟨qiu ms (qcj o)::M,by simp [k1],by simp [k2],fun k o' f' ho hf=> ?_⟩
  have e1:ms++qiu ms (qcj o)::M=(ms++[qiu ms (qcj o)])++M:=by simp
  have e2:done++f::fs=(done++[f])++fs:=by simp
  cases k with
  |zero=>
   simp at ho hf
   subst ho; subst hf
   refine ⟨fun j hj=>by have:=List.all_eq_true.1 h1 j hj; simpa using this,?_,fun j g hj hg=> ?_⟩
   ·rw [Nat.add_zero,List.take_left' rfl]
    simp [List.getD]
   ·rw [Nat.add_zero] at hj⊢
    have hg':done[j]? =some g:=by rwa [List.getElem?_append_left (by omega)] at hg
    have:=qoc done 0 h2 j g hg'
    rw [Nat.zero_add] at this
    have e:(ms++qiu ms (qcj o)::M).getD ms.length 0=qiu ms (qcj o):=by simp [List.getD]
    rw [e]
    exact this
  |succ k=>
   obtain ⟨q1,q2,q3⟩:=k3 k o' f' (by simpa using ho) (by simpa using hf)
   have e3:(ms++[qiu ms (qcj o)]).length+k=ms.length+(k+1):=by simp; omega
   rw [e3] at q1 q2 q3
   rw [e1,e2]
   exact ⟨q1,q2,q3⟩
 |[],_::_,_,_,_,h=>by cases h
 |_::_,[],_,_,_,h=>by cases h
def qmS (ops:Array Oper) (S:Nat→Bool):Prop:=∀i o,ops[i]? =some o→S i=true→∀j∈qcj o,S j=true
theorem qnU {ops:Array Oper} {fl:List qfF} (h:qjd ops.toList fl [] []=true):fl.length=ops.size∧∃M:List Nat,∀k o f,ops[k]? =some o→fl[k]? =some f→(∀j∈qcj o,j<k)∧M.getD k 0=qiu (M.take k) (qcj o)∧∀j g,j<k→fl[j]? =some g→(M.getD k 0).testBit j=true∨qf4 f g=true:=by
 obtain ⟨M,h1,h2,h3⟩:=qpS ops.toList fl [] [] rfl h
 refine ⟨by simpa using h2,M,fun k o f ho hf=> ?_⟩
 have:=h3 k o f (by simpa using ho) hf
 simpa using this
theorem qjI {ops:Array Oper} {fl:List qfF} {M:List Nat} (hlen:fl.length=ops.size) (hM:∀k o f,ops[k]? =some o→fl[k]? =some f→(∀j∈qcj o,j<k)∧M.getD k 0=qiu (M.take k) (qcj o)∧∀j g,j<k→fl[j]? =some g→(M.getD k 0).testBit j=true∨qf4 f g=true)
  {S:Nat→Bool} (hS:qmS ops S):∀(n k:Nat) (o:Oper),k<n→ops[k]? =some o→(∀j∈qcj o,S j=true)→∀j,(M.getD k 0).testBit j=true→S j=true
 |0,k,o,h,_,_,_,_=>by omega
 |n+1,k,o,hk,ho,he,j,hj=>by
  have hks:k<ops.size:=(Array.getElem?_eq_some_iff.1 ho).1
  obtain ⟨q1,q2,_⟩:=hM k o _ ho (List.getElem?_eq_getElem (by omega))
  rw [q2] at hj
  rcases qlD _ _ hj with h|h|⟨k',hk',h⟩
  ·simp at h
  ·exact he j h
  ·have hlt:=q1 k' hk'
   have ho':ops[k']? =some ops[k']:=Array.getElem?_eq_getElem (by omega)
   have e:(M.take k).getD k' 0=M.getD k' 0:=by
    simp only [List.getD_eq_getElem?_getD,List.getElem?_take,if_pos hlt]
   rw [e] at h
   exact qjI hlen hM hS n k' _ (by omega) ho' (hS k' _ ho' (he k' hk')) j h
theorem qq6 {f g:qfF} (h:qf4 f g=true) {s:Nat} :(s∈f.wr→s∉g.rd∧s∉g.wr)∧(s∈g.wr→s∉f.rd):=by
 simp only [qf4,Bool.and_eq_true] at h
 have h1:=qgu h.1
 have h2:=qgu h.2
 exact ⟨fun hs=>⟨fun hr=>h1 s hs (List.mem_append_left _ hr),fun hw=>h1 s hs (List.mem_append_right _ hw)⟩,fun hs=>h2 s hs⟩
theorem qpx {ops:Array Oper} {fl:List qfF} (h:qjd ops.toList fl [] []=true) {S:Nat→Bool} (hS:qmS ops S) {i:Nat} {o:Oper} {f:qfF} (ho:ops[i]? =some o) (hf:fl[i]? =some f) (hn:S i=false) (he:∀j∈qcj o,S j=true)
  {s:Nat} (hs:s∈f.rd∨s∈f.wr):∀j g,fl[j]? =some g→s∈g.wr→S j=decide (j<i):=by
 obtain ⟨hlen,M,hM⟩:=qnU h
 intro j g hg hw
 have hjs:j<ops.size:=by
  have:=(List.getElem?_eq_some_iff.1 hg).1
  omega
 have hoj:ops[j]? =some ops[j]:=Array.getElem?_eq_getElem hjs
 rcases Nat.lt_trichotomy j i with hlt|heq|hgt
 ·rw [decide_eq_true hlt]
  cases hSj:S j with
  |true=>rfl
  |false=>
   rcases (hM i o f ho hf).2.2 j g hlt hg with hb|hb
   ·have:=qjI hlen hM hS (i+1) i o (by omega) ho he j hb
    rw [hSj] at this
    cases this
   ·obtain ⟨n1,n2⟩:=qq6 hb (s:=s)
    rcases hs with hs|hs
    ·exact absurd hs (n2 hw)
    ·exact absurd hw (n1 hs).2
 ·subst heq
  rw [hn]
  simp
 ·rw [decide_eq_false (by omega)]
  cases hSj:S j with
  |false=>rfl
  |true=>
   rcases (hM j _ g hoj hg).2.2 i f hgt hf with hb|hb
   ·have:=qjI hlen hM hS (j+1) j _ (by omega) hoj (hS j _ hoj hSj) i hb
    rw [hn] at this
    cases this
   ·obtain ⟨n1,n2⟩:=qq6 hb (s:=s)
    rcases hs with hs|hs
    ·exact absurd hs (n1 hw).1
    ·exact absurd hs (n1 hw).2
theorem qof {ops:Array Oper} {fl:List qfF} {σ:St} (h:qjd ops.toList fl [] []=true) {S:Nat→Bool} (hS:qmS ops S) {i:Nat} {o:Oper} {f:qfF} (ho:ops[i]? =some o) (hf:fl[i]? =some f) (hn:S i=false) (he:∀j∈qcj o,S j=true)
  {s:Nat} (hs:s∈f.rd∨s∈f.wr):qA (qcE S 0 fl σ) s=qA (qfb (fl.take i) σ) s:=by
 have hb:=qdX fl 0 i σ
 rw [Nat.zero_add] at hb
 rw [←hb]
 exact qdZ fl 0 rfl rfl fun k g hg hw=>by
  rw [Nat.zero_add]
  exact qpx h hS ho hf hn he hs k g hg hw
theorem qqB {fl:List qfF} {i:Nat} {f:qfF} (hf:fl[i]? =some f) (σ:St):qfb (fl.take (i+1)) σ=qv (qfb (fl.take i) σ) f.us:=by
 rw [List.take_add_one,hf]
 simp [qfb,List.foldl_append]
theorem qqM {ops:Array Oper} {fl:List qfF} {σ:St} (h:qjd ops.toList fl [] []=true) {S S':Nat→Bool} (hS:qmS ops S) {i:Nat} {o:Oper} {f:qfF} (ho:ops[i]? =some o) (hf:fl[i]? =some f) (hn:S i=false) (he:∀j∈qcj o,S j=true)
  (hS1:S' i=true) (hS2:∀j,j≠i→S' j=S j):qcE S' 0 fl σ=qv (qcE S 0 fl σ) f.us:=by
 apply qoQ
 ·rw [qO,qbY,qbY]
 ·intro s
  by_cases hs:s∈f.wr
  ·have h1:qA (qcE S' 0 fl σ) s=qA (qfb (fl.take (i+1)) σ) s:=by
    have hb:=qdX fl 0 (i+1) σ
    rw [Nat.zero_add] at hb
    rw [←hb]
    refine qdZ fl 0 rfl rfl fun k g hg hw=> ?_
    rw [Nat.zero_add]
    by_cases hk:k=i
    ·subst hk
     rw [hS1]
     simp
    ·rw [hS2 k hk,qpx h hS ho hf hn he (.inr hs) k g hg hw]
     by_cases hlt:k<i
     ·rw [decide_eq_true hlt,decide_eq_true (by omega)]
     ·rw [decide_eq_false hlt,decide_eq_false (by omega)]
   rw [h1,qqB hf]
   refine (qhg _ ?_ (qof h hS ho hf hn he (.inr hs))).symm
   rw [qbY]
   have hb:=qdX fl 0 i σ
   rw [←hb,qbY]
  ·rw [qhm _ hs]
   refine qdZ fl 0 rfl rfl fun k g hg hw=> ?_
   rw [Nat.zero_add]
   refine hS2 k fun e=> ?_
   subst e
   rw [hf] at hg
   injection hg with hg
   subst hg
   exact hs hw
theorem qje {ops:Array Oper} {listed:Array Bool} {i:Nat} (h:i∈Region.ready .any ops listed):i<ops.size∧listed.getD i true=false∧∃o,ops[i]? =some o∧∀j∈qcj o,listed.getD j false=true:=by
 simp only [Region.ready,List.mem_filter,List.mem_range,Bool.and_eq_true,Bool.not_eq_true'] at h
 obtain ⟨h1,h2,h3⟩:=h
 have ho:ops[i]? =some ops[i]:=Array.getElem?_eq_getElem h1
 refine ⟨h1,h2,_,ho,fun j hj=> ?_⟩
 rw [ho] at h3
 simp only [Option.map_some,Option.getD_some] at h3
 rw [←Array.all_toList,List.all_eq_true] at h3
 simp only [qcj,List.mem_map,List.mem_filter] at hj
 obtain ⟨e,⟨he,hb⟩,rfl⟩:=hj
 have:=h3 e he
 rw [hb] at this
 simpa using this
theorem qnN {ops:Array Oper} {listed:Array Bool} {i:Nat} {o:Oper} (ho:ops[i]? =some o) (hl:listed.getD i true=false) (he:∀j∈qcj o,listed.getD j false=true):i∈Region.ready .any ops listed:=by
 simp only [Region.ready,List.mem_filter,List.mem_range,Bool.and_eq_true,Bool.not_eq_true']
 refine ⟨(Array.getElem?_eq_some_iff.1 ho).1,hl,?_⟩
 rw [ho]
 simp only [Option.map_some,Option.getD_some]
 rw [←Array.all_toList,List.all_eq_true]
 intro e hm
 by_cases hb:Region.binds .any e=true
 ·rw [he e.on (List.mem_map.2 ⟨e,List.mem_filter.2 ⟨hm,hb⟩,rfl⟩)]
  simp
 ·simp [hb]
theorem qpM (S:Nat→Bool):(l l':List qfF)→l.map (·.us)=l'.map (·.us)→∀i σ,qcE S i l σ=qcE S i l' σ
 |[],[],_,_,_=>rfl
 |[],_::_,h,_,_=>by cases h
 |_::_,[],h,_,_=>by cases h
 |f::l,f'::l',h,i,σ=>by
  simp only [List.map_cons,List.cons.injEq] at h
  simp only [qcE,h.1]
  exact qpM S l l' h.2 _ _
theorem qmy:(l l':List qfF)→l.map (·.us)=l'.map (·.us)→∀σ,qfb l σ=qfb l' σ
 |[],[],_,_=>rfl
 |[],_::_,h,_=>by cases h
 |_::_,[],h,_=>by cases h
 |f::l,f'::l',h,σ=>by
  simp only [List.map_cons,List.cons.injEq] at h
  simp only [qfb,List.foldl_cons,h.1]
  exact qmy l l' h.2 _
theorem qpl (σ:St) (fl:List qfF):(os:List Oper)→(fs:List qfF)→fs.length=os.length→(qkH σ fl os fs).map (·.us)=fs.map (·.us)
 |[],[],_=>rfl
 |[],_::_,h=>by cases h
 |_::_,[],h=>by cases h
 |o::os,f::fs,h=>by
  simp only [qkH,List.map_cons,qpl σ fl os fs (by simpa using h)]
  congr 1
  split
  ·split <;> rfl
  ·rfl
theorem qpi (σ:St) (fl:List qfF):(os:List Oper)→(fs:List qfF)→fs.length=os.length→∀(i:Nat) (o:Oper) (f f':qfF),os[i]? =some o→fs[i]? =some f→(qkH σ fl os fs)[i]? =some f'→f'.rd=f.rd∨∃s,qjR o=some s∧qrr σ fl s=true
 |[],_,_,i,o,f,f',h,_,_=>by simp at h
 |_::_,[],h,_,_,_,_,_,_,_=>by cases h
 |o'::os,f0::fs,h,i,o,f,f',h1,h2,h3=>by
  cases i with
  |zero=>
   simp only [qkH,List.getElem?_cons_zero,Option.some.injEq] at h1 h2 h3
   subst h1; subst h2; subst h3
   split
   ·rename_i s hs
    split
    ·rename_i hq
     exact .inr ⟨s,hs,hq⟩
    ·exact .inl rfl
   ·exact .inl rfl
  |succ i=>
   simp only [qkH,List.getElem?_cons_succ] at h1 h2 h3
   exact qpi σ fl os fs (by simpa using h) i o f f' h1 h2 h3
theorem qlt {s:Nat} :(us:List U)→ {σ:St} →qg9 (qA σ s).2=true→us.all (fun u=>u.s != s||(!u.bump&&qg9 u.a))=true→(qA (qv σ us) s).1=(qA σ s).1∧qg9 (qA (qv σ us) s).2=true
 |[],_,h,_=>⟨rfl,h⟩
 |u::us,σ,h,hu=>by
  simp only [List.all_cons,Bool.and_eq_true] at hu
  have key:(qA (q7 σ u) s).1=(qA σ s).1∧qg9 (qA (q7 σ u) s).2=true:=by
   by_cases hs:s=u.s
   ·by_cases hlt:u.s<σ.length
    ·have h1:=hu.1
     simp only [hs,bne_self_eq_false,Bool.false_or,Bool.and_eq_true,Bool.not_eq_true'] at h1
     rw [hs,qU σ u hlt,h1.1]
     exact ⟨rfl,h1.2⟩
    ·have e1:q7 σ u=σ:=by simp only [q7]; exact List.set_eq_of_length_le (by omega)
     rw [e1]
     exact ⟨rfl,h⟩
   ·rw [qB _ _ hs]
    exact ⟨rfl,h⟩
  obtain ⟨k1,k2⟩:=qlt us (σ:=q7 σ u) key.2 hu.2
  exact ⟨k1.trans key.1,k2⟩
theorem qhc {S:Nat→Bool} {s:Nat} :(l:List qfF)→(i:Nat)→ {σ:St} →qg9 (qA σ s).2=true→l.all (fun f=>f.us.all (fun u=>u.s != s||(!u.bump&&qg9 u.a)))=true→(qA (qcE S i l σ) s).1=(qA σ s).1∧qg9 (qA (qcE S i l σ) s).2=true
 |[],_,_,h,_=>⟨rfl,h⟩
 |f::l,i,σ,h,hl=>by
  simp only [List.all_cons,Bool.and_eq_true] at hl
  simp only [qcE]
  split
  ·obtain ⟨k1,k2⟩:=qlt f.us h hl.1
   obtain ⟨k3,k4⟩:=qhc l (i+1) k2 hl.2
   exact ⟨k3.trans k1,k4⟩
  ·exact qhc l (i+1) h hl.2
theorem qt9 {E:Env} {o:Oper} {s:Nat} (ho:qjR o=some s) {lk lk':Nat→Ent} (h1:qg9 (lk s).2=true) (h2:qg9 (lk' s).2=true) (h3:(lk' s).1=(lk s).1):(qjh E none o).run lk'=(qjh E none o).run lk:=by
 unfold qjR at ho
 split at ho
 case h_2=>cases ho
 rename_i s' hg hop
 injection ho with ho
 subst ho
 cases ha:lk s' with
 |mk v a=>
  cases ha':lk' s' with
  |mk v' a'=>
   rw [ha] at h1 h3
   rw [ha'] at h2 h3
   simp only at h1 h2 h3
   subst h3
   cases a <;> simp only [qg9,Bool.false_eq_true] at h1
   cases a' <;> simp only [qg9,Bool.false_eq_true] at h2
   simp only [qjh,qe2,hop,opd,Q.bind,Q.run,ha,ha',qb8,qtF,Bool.false_eq_true,if_false,okE]
   unfold qo8
   split
   ·rfl
   ·have e:∀d,((qcg o (.ref s' v')).any (qrd d))=false:=fun d=>by unfold qcg; split <;> simp [qrd]
    simp only [e,Bool.false_eq_true,if_false,Q.run]
theorem qt8 {ops:Array Oper} {o:Oper} {s:Nat} {g:Option (Nat×Bool)} (ho:qjR o=some s) (hg:qg8 ops o=some g):g=none:=by
 unfold qjR at ho
 split at ho
 case h_2=>cases ho
 rename_i s' hgd hop
 unfold qg8 at hg
 rw [hgd] at hg
 injection hg with hg
 exact hg.symm
theorem qar.drew {C:Ctx} {σ:St} {tm:Array Value} {w:World} {own:Nat→List Nat} (h:qar C σ tm w own):qar C σ tm w.drew own:=
 ⟨h.size,h.kept.drew,h.mine,h.nodup,h.apart,h.outside,fun s hs=>qaN.keep (X:= { P:=C.P,ver:=fun s=>(qA σ s).1,tm:=fun s=>tm.getD s undef,w,F:=C.free w own,own,pn:=C.pn }) (X':= { P:=C.P,ver:=fun s=>(qA σ s).1,tm:=fun s=>tm.getD s undef,w:=w.drew,F:=C.free w.drew own,own,pn:=C.pn }) ⟨rfl,rfl⟩ (fun b hb hlt=>⟨hb,hlt,rfl⟩) (fun _ _ _=>rfl) (fun m hm hv=>⟨hv,rfl,fun b hb hp=>⟨hb,rfl⟩⟩) (h.rep s hs),h.wf⟩
end Go.Vi
namespace Go.Vi
open Go.RowKit
section
variable {C:Ctx} {E:Env} {σ τ:St} {tm:Array Value} {a:Act} {w w':World} {own:Nat→List Nat} {o:Oper} {p:qh1} [Tabbed E C]
theorem qlY: {c:List Bool} →qwG c=true→qeV c
 |[],_=>fun b hb=>by cases hb
 |[x],h=>fun b hb=>by simp at hb; rw [hb]; exact h
 |x::y::r,h=>fun b hb=>by
  simp only [qwG,Bool.and_eq_true] at h
  rcases List.mem_cons.1 hb with rfl|hb
  ·exact h.1
  ·exact qlY h.2 b hb
theorem qg6 {wr:List Nat} :(us:List U)→ {σ:St} →(∀u∈us,u.s∈wr)→Fr wr σ (qv σ us)
 |[],σ,_=>⟨rfl,fun _ _=>rfl⟩
 |u::us,σ,h=>by
  obtain ⟨h1,h2⟩:=qg6 us (σ:=q7 σ u) (fun v hv=>h v (List.mem_cons_of_mem _ hv))
  refine ⟨by rw [show qv σ (u::us)=qv (q7 σ u) us from rfl,h1,qax],fun s hs=> ?_⟩
  show qA (qv (q7 σ u) us) s=_
  rw [h2 s hs]
  exact qB σ u fun e=>hs (e ▸ h u List.mem_cons_self)
theorem Fr.trans {wr:List Nat} {a b c:St} (h:Fr wr a b) (k:Fr wr b c):Fr wr a c:=⟨k.1.trans h.1,fun s hs=>(k.2 s hs).trans (h.2 s hs)⟩
theorem Fr.refl (wr:List Nat) (a:St):Fr wr a a:=⟨rfl,fun _ _=>rfl⟩
theorem Fr.mono {wr wr':List Nat} {a b:St} (h:Fr wr a b) (hs:∀s∈wr,s∈wr'):Fr wr' a b:=⟨h.1,fun s hn=>h.2 s fun hm=>hn (hs s hm)⟩
def qvB (σ σ':St):Prop:=∀s,(qA σ s).1≤(qA σ' s).1
theorem qql (σ:St) (u:U):qvB σ (q7 σ u):=fun s=>by
 by_cases h:s=u.s
 ·subst h
  by_cases hl:u.s<σ.length
  ·rw [qU σ u hl]
   simp only
   split
   ·exact Nat.le_succ _
   ·exact Nat.le_refl _
  ·have:q7 σ u=σ:=by simp only [q7]; exact List.set_eq_of_length_le (by omega)
   rw [this]
   exact Nat.le_refl _
 ·rw [qB _ _ h]; exact Nat.le_refl _
theorem qvB.trans {a b c:St} (h:qvB a b) (k:qvB b c):qvB a c:=fun s=>Nat.le_trans (h s) (k s)
theorem qlG:(us:List U)→(σ:St)→qvB σ (qv σ us)
 |[],_=>fun _=>Nat.le_refl _
 |u::us,σ=>(qql σ u).trans (qlG us (q7 σ u))
theorem qk2 {wr:List Nat} {ops:Array Oper} :(l:List Oper)→ {σ σ':St} → {c c':List Bool} → {fs fs':List qfF} →qen E wr ops l σ c fs=some (σ',c',fs')→
  Fr wr σ σ'∧qvB σ σ'∧(∀b∈c,b∈c')∧(∀f∈fs,f∈fs')∧Fr (fs'.flatMap (·.wr)) σ σ'
 |[],σ,σ',c,c',fs,fs',he=>by
  simp only [qen,Option.some.injEq,Prod.mk.injEq] at he
  obtain ⟨rfl,rfl,rfl⟩:=he
  exact ⟨Fr.refl _ _,fun _=>Nat.le_refl _,fun _ h=>h,fun _ h=>h,Fr.refl _ _⟩
 |o::r,σ,σ',c,c',fs,fs',he=>by
  simp only [qen] at he
  split at he
  ·cases he
  rename_i g hg
  split at he
  ·cases he
  rename_i f hf
  split at he
  case isFalse=>cases he
  rename_i hu
  obtain ⟨h1,h2,h3,h4,h5⟩:=qk2 r he
  have hu':∀u∈f.upd,u.s∈wr:=fun u hm=>by
   have:=List.all_eq_true.1 hu u hm
   simp at this
   exact this.1
  refine ⟨(qg6 f.upd hu').trans h1,(qlG _ _).trans h2,fun b hb=>h3 b (List.mem_append_left _ hb),fun x hx=>h4 x (List.mem_cons_of_mem _ hx),(qg6 f.upd fun u hm=> ?_).trans h5⟩
  exact List.mem_flatMap.2 ⟨_,h4 _ List.mem_cons_self,List.mem_map_of_mem hm⟩
def qei (pin:List Nat) (a a':Act):Prop:=a'.defers=a.defers∧∀s∈pin,a'.tmps.getD s undef=a.tmps.getD s undef
theorem qei.refl (pin:List Nat) (a:Act):qei pin a a:=⟨rfl,fun _ _=>rfl⟩
theorem qei.trans {pin:List Nat} {a b c:Act} (h:qei pin b c) (k:qei pin a b):qei pin a c:=⟨h.1.trans k.1,fun s hs=>(h.2 s hs).trans (k.2 s hs)⟩
theorem qei.pinC {pin:List Nat} {a a':Act} (hF:qpz E C pin) (hpc:quz C a.tmps) (h:qei pin a a'):quz C a'.tmps:=fun k b hb=>(h.2 k (hF.sub k b hb)).trans (hpc k b hb)
theorem qnZ (hE:qbZ E C.P) {pin wr:List Nat} (hF:qpz E C pin) {ops:Array Oper} {Q:Exit→Act→World→Prop} :(l:List Oper)→qoe pin l=true→ {σ σ':St} → {a:Act} → {w:World} → {own:Nat→List Nat} → {c c':List Bool} → {fs fs':List qfF} →
  qen E wr ops l σ c fs=some (σ',c',fs')→qeV c'→quz C a.tmps→qar C σ a.tmps w own→(∀a' w' own',qei pin a a'→qar C σ' a'.tmps w' own'→Q .normal a' w')→wpList C.P ops Q l a w
 |[],_,σ,σ',a,w,own,c,c',fs,fs',he,_,_,h,hQ=>by
  simp only [qen,Option.some.injEq,Prod.mk.injEq] at he
  obtain ⟨rfl,_,_⟩:=he
  exact hQ a w own (qei.refl _ _) h
 |o::r,hp,σ,σ',a,w,own,c,c',fs,fs',he,hc,hpc,h,hQ=>by
  simp only [qoe,List.all_cons,Bool.and_eq_true] at hp
  simp only [qen] at he
  split at he
  ·cases he
  rename_i g hg
  split at he
  ·cases he
  rename_i f hf
  split at he
  case isFalse=>cases he
  rename_i hu
  have hu':∀u∈f.upd,u.s<σ.length:=fun u hm=>by
   have:=List.all_eq_true.1 hu u hm
   simp at this
   exact this.2
  obtain ⟨_,_,h3,_,_⟩:=qk2 r he
  have hcf:qeV f.chk:=fun b hb=>hc b (h3 b (List.mem_append_right _ hb))
  have hok:=qqb hE hF hpc h hg hf hu' hcf (wpList C.P ops Q r) Q fun a' w' own' hd hst=>by
   have hk:qei pin a a':=⟨hd.1,fun s hs=>hd.2 s fun e=>qgu hp.1 s (by simp [e]) hs⟩
   exact qnZ hE hF r hp.2 he hc (hk.pinC hF hpc) hst fun a2 w2 own2 hd2 hst2=>hQ a2 w2 own2 (hd2.trans hk) hst2
  unfold wpList
  split at hok
  ·rename_i hw
   rw [if_pos hw]
   exact .inl hok
  ·rename_i hw
   rw [if_neg hw]
   exact hok
theorem qrS {listed:Array Bool} (h:listed.toList.countP (fun b=> !b)=0) {i:Nat} (hi:i<listed.size):listed.getD i false=true:=by
 have:=List.countP_eq_zero.1 h listed[i] (by simp)
 rw [Array.getD_eq_getD_getElem?,Array.getElem?_eq_getElem hi]
 simpa using this
theorem qvo (hE:qbZ E C.P) {pin:List Nat} (hF:qpz E C pin) {ops:Array Oper} {Q:Exit→Act→World→Prop} {fl0 fl:List qfF} {c:List Bool} {a0:Act} (hp:qoe pin ops.toList=true) (hd:qsT E ops σ ops.toList fl0 c) (hus:fl.map (·.us)=fl0.map (·.us)) (hsoft:∀(i:Nat) (o:Oper) (f f':qfF),ops.toList[i]? =some o→fl0[i]? =some f→fl[i]? =some f'→f'.rd=f.rd∨∃s,qjR o=some s∧qrr σ fl0 s=true) (hg:qjd ops.toList fl [] []=true) (hc:qeV c) (hpc:quz C a0.tmps)
  (hQ:∀a' w' own',qei pin a0 a'→qar C (qfb fl σ) a'.tmps w' own'→Q .normal a' w'):∀(fuel:Nat) (listed:Array Bool) (a:Act) (w:World) (own:Nat→List Nat),listed.size=ops.size→listed.toList.countP (fun b=> !b)=fuel→qmS ops (fun i=>listed.getD i false)→qei pin a0 a→
   qar C (qcE (fun i=>listed.getD i false) 0 fl σ) a.tmps w own→wpAny C.P .any ops Q fuel listed a w:=by
 have hlen0:fl0.length=ops.size:=by have:=hd.1; simpa using this
 have hlen:fl.length=ops.size:=by have:=congrArg List.length hus; simp only [List.length_map] at this; omega
 have full:∀ {listed:Array Bool},(∀i,i<ops.size→listed.getD i false=true)→qcE (fun i=>listed.getD i false) 0 fl σ=qfb fl σ:=by
  intro listed hall
  have hb:=qdX fl 0 fl.length σ
  rw [List.take_length] at hb
  rw [←hb]
  apply qoQ
  ·rw [qbY,qbY]
  ·intro s
   refine qdZ fl 0 rfl rfl fun k g hg _=> ?_
   have:=(List.getElem?_eq_some_iff.1 hg).1
   rw [hall (0+k) (by omega),decide_eq_true (by omega)]
 intro fuel
 induction fuel with
 |zero=>
  intro listed a w own hs hcnt hcl hk hst
  have hall:∀i,i<ops.size→listed.getD i false=true:=fun i hi=>qrS hcnt (by omega)
  refine ⟨?_,hQ a w own hk (by rw [full hall] at hst; exact hst)⟩
  cases hr:Region.ready .any ops listed with
  |nil=>rfl
  |cons i r=>
   obtain ⟨h1,h2,_⟩:=qje (ops:=ops) (listed:=listed) (i:=i) (by rw [hr]; exact List.mem_cons_self)
   have h3:=hall i h1
   rw [Array.getD_eq_getD_getElem?,Array.getElem?_eq_getElem (by omega)] at h2 h3
   simp only [Option.getD_some] at h2 h3
   rw [h2] at h3
   cases h3
 |succ fuel ih=>
  intro listed a w own hs hcnt hcl hk hst
  refine ⟨fun hr=> ?_,fun i hi=> ?_⟩
  ·have hall:∀i,i<ops.size→listed.getD i false=true:=by
    intro i
    induction i using Nat.strongRecOn with
    |ind i ihi=>
     intro hi
     cases hb:listed.getD i false with
     |true=>rfl
     |false=>
      have ho:ops[i]? =some ops[i]:=Array.getElem?_eq_getElem hi
      obtain ⟨_,M,hM⟩:=qnU hg
      obtain ⟨q1,_,_⟩:=hM i _ _ ho (List.getElem?_eq_getElem (by omega))
      have hb':listed.getD i true=false:=by
       rw [Array.getD_eq_getD_getElem?,Array.getElem?_eq_getElem (by omega)] at hb⊢
       exact hb
      have:=qnN ho hb' fun j hj=>ihi j (q1 j hj) (by have:=q1 j hj; omega)
      rw [hr] at this
      cases this
   exact hQ a w own hk (by rw [full hall] at hst; exact hst)
  ·obtain ⟨h1,h2,o,ho,he⟩:=qje hi
   have hf:fl[i]? =some fl[i]:=List.getElem?_eq_getElem (by omega)
   have hn:listed.getD i false=false:=by
    rw [Array.getD_eq_getD_getElem?,Array.getElem?_eq_getElem (by omega)] at h2⊢
    exact h2
   have hf0:fl0[i]? =some fl0[i]:=List.getElem?_eq_getElem (by omega)
   obtain ⟨g,f,k1,k2,k3,k4,k5⟩:=hd.2 i o _ (by simpa using ho) hf0
   have hui:(fl[i]).us=f.upd:=by
    have h1:(fl.map (·.us))[i]? =(fl0.map (·.us))[i]? :=by rw [hus]
    simp only [List.getElem?_map,hf,hf0,Option.map_some,Option.some.injEq] at h1
    rw [h1,k3]
   have hta:qfb (fl0.take i) σ=qfb (fl.take i) σ:=qmy _ _ (by rw [List.map_take,List.map_take,hus]) σ
   have hrun:(qjh E g o).run (qA (qcE (fun i=>listed.getD i false) 0 fl σ))=some f:=by
    rw [←k2]
    rcases hsoft i o _ _ (by simpa using ho) hf0 hf with hrd|⟨s,hs1,hs2⟩
    ·rw [hta]
     rw [hta] at k3
     refine Go.Vi.Q.run_congr _ fun s hs=>qof hg hcl ho hf hn he (.inl ?_)
     rw [hrd,k3]
     exact hs
    ·have hgn:=qt8 hs1 k1
     subst hgn
     simp only [qrr,Bool.and_eq_true] at hs2
     obtain ⟨a1,a2⟩:=qhc (S:=fun i=>listed.getD i false) fl0 0 hs2.1 hs2.2
     obtain ⟨b1,b2⟩:=qhc (S:=fun k=>decide (k<0+i)) fl0 0 hs2.1 hs2.2
     rw [qpM _ fl0 fl hus.symm] at a1 a2
     rw [qdX fl0 0 i σ] at b1 b2
     exact qt9 hs1 b2 a2 (a1.trans b1.symm)
   have hok:=qqb hE hF (hk.pinC hF hpc) hst k1 hrun (fun u hu=>by rw [qbY]; exact k4 u hu) (fun b hb=>hc b (k5 b hb)) (wpAny C.P .any ops Q fuel (listed.setIfInBounds i true)) Q fun a' w' own' hkd hst'=> ?_
   ·unfold wpOp
    rw [ho]
    simp only
    split at hok
    ·rename_i hw
     rw [if_pos hw]
     exact .inl hok
    ·rename_i hw
     rw [if_neg hw]
     exact hok
   ·have hset:∀j,(listed.setIfInBounds i true).getD j false=if j=i then true else listed.getD j false:=by
     intro j
     simp only [Array.getD_eq_getD_getElem?,Array.getElem?_setIfInBounds]
     by_cases hj:j=i
     ·subst hj
      simp [hs,h1]
     ·rw [if_neg (fun e=>hj e.symm),if_neg hj]
    refine ih _ a' w' own' (by simpa using hs) ?_ ?_ ?_ ?_
    ·rw [Array.toList_setIfInBounds,List.countP_set (by simp; omega),hcnt]
     have hb:listed.toList[i]'(by simp; omega)=false:=by
      rw [Array.getD_eq_getD_getElem?,Array.getElem?_eq_getElem (by omega)] at hn
      simpa using hn
     rw [hb]
     simp
    ·intro j oj hoj hSj k hkk
     simp only [hset] at hSj⊢
     split
     ·rfl
     ·by_cases hji:j=i
      ·subst hji
       rw [ho] at hoj
       injection hoj with hoj
       subst hoj
       exact he k hkk
      ·rw [if_neg hji] at hSj
       exact hcl j oj hoj hSj k hkk
    ·refine qei.trans ⟨hkd.1,fun s hs=>hkd.2 s fun e=> ?_⟩ hk
     have:=List.all_eq_true.1 hp o (by have:=Array.mem_of_getElem? ho; simpa using this)
     exact qgu this s (by simp [e]) hs
    ·have e:=qqM (σ:=σ) hg (S':=fun j=>(listed.setIfInBounds i true).getD j false) hcl ho hf hn he (by simp [hset]) (fun j hj=>by simp [hset,hj])
     rw [e]
     rw [hui]
     exact hst'
theorem qkJ (hE:qbZ E C.P) {pin wr:List Nat} (hF:qpz E C pin) {id:Nat} {ops:Array Oper} {d:Bool} {Q:Exit→Act→World→Prop} {σ':St} {c:List Bool} {ds:List Nat} (hp:qoe pin ops.toList=true) (he:qdW E wr ops d σ=some (σ',c,ds)) (hc:qeV c) (hpc:quz C a.tmps) (h:qar C σ a.tmps w own)
  (hQ:∀a' w' own',qei pin a a'→qar C σ' a'.tmps w' own'→Q .normal a' w'):(Code.region id ops d).wp C.P Q a w:=by
 unfold qdW at he
 split at he
 case h_2=>cases he
 rename_i σ1 c1 fs h1
 split at he
 case isFalse=>cases he
 rename_i hd
 injection he with he
 simp only [Prod.mk.injEq] at he
 obtain ⟨rfl,rfl,rfl⟩:=he
 cases d with
 |false=>exact wp_region_list (qnZ hE hF ops.toList hp h1 hc hpc h hQ)
 |true=>
  obtain ⟨fl,g1,g2,g3,_⟩:=qls ops.toList h1
  have hfs:fs.reverse=fl:=by rw [g1]; simp
  rw [hfs] at hd
  have hd:qjd ops.toList (qkH σ fl ops.toList fl) [] []=true:=by simpa using hd
  have hsu:=qpl σ fl ops.toList fl g2.1
  refine wp_region_any hE.mixed (qvo hE hF (a0:=a) hp g2 hsu (qpi σ fl ops.toList fl g2.1) hd hc hpc (by rw [qmy _ _ hsu,←g3]; exact hQ) _ _ _ _ own (by simp) (by simp [List.countP_replicate]) (fun i o ho hS=> ?_) (qei.refl _ _) ?_)
  ·simp [Array.getD_eq_getD_getElem?,Array.getElem?_replicate] at hS
   split at hS <;> simp at hS
  ·have e:qcE (fun i=>(Array.replicate ops.size false).getD i false) 0 (qkH σ fl ops.toList fl) σ=σ:=by
    have:(fun i=>(Array.replicate ops.size false).getD i false)=fun _=>false:=by
     funext i
     simp only [Array.getD_eq_getD_getElem?,Array.getElem?_replicate]
     split <;> rfl
    rw [this,qjN]
   rw [e]
   exact h.drew
theorem qkz {wr:List Nat} {ops:Array Oper} {d:Bool} {σ':St} {c:List Bool} {ds:List Nat} (he:qdW E wr ops d σ=some (σ',c,ds)):Fr wr σ σ'∧qvB σ σ'∧Fr ds σ σ':=by
 unfold qdW at he
 split at he
 case h_2=>cases he
 rename_i σ1 c1 fs h1
 split at he
 case isFalse=>cases he
 injection he with he
 simp only [Prod.mk.injEq] at he
 obtain ⟨rfl,rfl,rfl⟩:=he
 obtain ⟨k1,k2,_,_,k5⟩:=qk2 ops.toList h1
 exact ⟨k1,k2,k5⟩
theorem qmZ (b:Bool) (σ1 σ2:St):(ds:List Nat)→(σ:St)→(qlw b ds σ σ1 σ2).length=σ.length∧∀s,(s∈ds∧s<σ.length→qA (qlw b ds σ σ1 σ2) s=(max (qA σ1 s).1 (qA σ2 s).1+1,qgM b (qA σ1 s).2 (qA σ2 s).2))∧(¬(s∈ds∧s<σ.length)→qA (qlw b ds σ σ1 σ2) s=qA σ s)
 |[],σ=>⟨rfl,fun s=>⟨fun h=>(by cases h.1),fun _=>rfl⟩⟩
 |d::ds,σ=>by
  obtain ⟨h1,h2⟩:=qmZ b σ1 σ2 ds (σ.set d (max (qA σ1 d).1 (qA σ2 d).1+1,qgM b (qA σ1 d).2 (qA σ2 d).2))
  have e:qlw b (d::ds) σ σ1 σ2=qlw b ds (σ.set d (max (qA σ1 d).1 (qA σ2 d).1+1,qgM b (qA σ1 d).2 (qA σ2 d).2)) σ1 σ2:=rfl
  rw [e]
  refine ⟨by rw [h1]; simp,fun s=> ?_⟩
  obtain ⟨k1,k2⟩:=h2 s
  rw [List.length_set] at k1 k2
  by_cases hs:s∈ds∧s<σ.length
  ·exact ⟨fun _=>k1 hs,fun hn=>absurd ⟨List.mem_cons_of_mem _ hs.1,hs.2⟩ hn⟩
  ·rw [k2 hs,qiU]
   by_cases hd:s=d∧d<σ.length
   ·rw [if_pos hd]
    obtain ⟨rfl,hd⟩:=hd
    exact ⟨fun _=>rfl,fun hn=>absurd ⟨List.mem_cons_self,hd⟩ hn⟩
   ·rw [if_neg hd]
    refine ⟨fun hn=> ?_,fun _=>rfl⟩
    rcases List.mem_cons.1 hn.1 with rfl|hm
    ·exact absurd ⟨rfl,hn.2⟩ hd
    ·exact absurd ⟨hm,hn.2⟩ hs
theorem qar.join {b:Bool} {ds:List Nat} {σ1 σ2:St} (h:qar C (bif b then σ1 else σ2) tm w own) (h1:Fr ds σ σ1) (h2:Fr ds σ σ2):qar C (qlw b ds σ σ1 σ2) tm w own:=by
 obtain ⟨j1,j2⟩:=qmZ b σ1 σ2 ds σ
 have hf:Fr ds σ (bif b then σ1 else σ2):=by cases b <;> assumption
 have zero:∀ {ρ:St} {s:Nat},ρ.length=σ.length→¬s<σ.length→qA ρ s=(0,.undef):=fun {ρ s} hl hs=>by simp [qA,List.getD,List.getElem?_eq_none (show ρ.length≤s by omega)]
 refine h.retag (j1.trans hf.1.symm) (fun s=>s∈ds∧s<σ.length) (fun s hs=> ?_) (fun s hs=> ?_) (fun s m _ hm hb=> ?_)
 ·rw [(j2 s).2 hs]
  by_cases hd:s∈ds
  ·have hl:¬s<σ.length:=fun hl=>hs ⟨hd,hl⟩
   rw [zero rfl hl,zero hf.1 hl]
  ·exact (hf.2 s hd).symm
 ·rw [(j2 s).1 hs]
  have e:(qA (bif b then σ1 else σ2) s).2=bif b then (qA σ1 s).2 else (qA σ2 s).2:=by cases b <;> rfl
  refine ⟨?_,fun v hv=> ?_⟩
  ·exact (qn9 (X:=sit C (bif b then σ1 else σ2) tm w own) b (by rw [←e]; exact h.at_ s)).2
  ·rw [e] at hv
   exact (qn9 b hv).1
 ·rw [(j2 m.1).1 hb]
  have:=h.wf s m hm
  have:m.2≤max (qA σ1 m.1).1 (qA σ2 m.1).1:=by
   cases b
   ·exact Nat.le_trans this (Nat.le_max_right _ _)
   ·exact Nat.le_trans this (Nat.le_max_left _ _)
  show m.2<_+1
  omega
theorem qp6 {b:Bool} {ds wr:List Nat} {σ1 σ2:St} (h:∀s∈ds,s∈wr):Fr wr σ (qlw b ds σ σ1 σ2):=by
 obtain ⟨j1,j2⟩:=qmZ b σ1 σ2 ds σ
 exact ⟨j1,fun s hs=>(j2 s).2 fun hn=>hs (h s hn.1)⟩
end
end Go.Vi
namespace Go.Vi
open Go.RowKit
section
variable {C:Ctx} {E:Env} {σ τ:St} {tm:Array Value} {a:Act} {w w':World} {own:Nat→List Nat} {o:Oper} {p:qh1} [Tabbed E C]
theorem qn2 {wr:List Nat} {ops:Array Oper} :(l:List Oper)→ {σ σ':St} → {c c':List Bool} → {fs fs':List qfF} →qen E wr ops l σ c fs=some (σ',c',fs')→(∀f∈fs,∀s∈f.wr,s∈wr)→∀f∈fs',∀s∈f.wr,s∈wr
 |[],σ,σ',c,c',fs,fs',he,h=>by
  simp only [qen,Option.some.injEq,Prod.mk.injEq] at he
  obtain ⟨rfl,rfl,rfl⟩:=he
  exact h
 |o::r,σ,σ',c,c',fs,fs',he,h=>by
  simp only [qen] at he
  split at he
  ·cases he
  rename_i g hg
  split at he
  ·cases he
  rename_i f hf
  split at he
  case isFalse=>cases he
  rename_i hu
  refine qn2 r he fun f' hf' s hs=> ?_
  rcases List.mem_cons.1 hf' with rfl|hf'
  ·obtain ⟨u,hm,rfl⟩:=List.mem_map.1 hs
   have:=List.all_eq_true.1 hu u hm
   simp at this
   exact this.1
  ·exact h f' hf' s hs
theorem qj3 {wr:List Nat} {ops:Array Oper} {d:Bool} {σ':St} {c:List Bool} {ds:List Nat} (he:qdW E wr ops d σ=some (σ',c,ds)):∀s∈ds,s∈wr:=by
 unfold qdW at he
 split at he
 case h_2=>cases he
 rename_i σ1 c1 fs h1
 split at he
 case isFalse=>cases he
 injection he with he
 simp only [Prod.mk.injEq] at he
 obtain ⟨rfl,rfl,rfl⟩:=he
 intro s hs
 obtain ⟨f,hf,hs⟩:=List.mem_flatMap.1 hs
 exact qn2 ops.toList h1 (fun f hf=>by cases hf) f hf s hs
theorem qtu (hpc:quz C a.tmps) (h:qar C σ a.tmps w own) {c:Operand} {x:Bool} {ow:List Nat} (he:Q.run (qA σ) ((opd E [] 0 c).bind qnr)=some ⟨.bool,x,ow⟩):a.eval c= .bool x:=by
 obtain ⟨o1,h1,h2⟩:=Q.bind_some he
 exact qaA.bool (qdN h (qaL h ⟨hpc,fun q hq=>by cases hq⟩ h1) h2)
theorem qeM:(l:List Nat)→ {σ:St} → {own:Nat→List Nat} →qar C σ tm w own→∃own',qar C (qiS l σ) tm w own'
 |[],_,own,h=>⟨own,h⟩
 |s::l,σ,own,h=>by
  obtain ⟨own1,h1,_⟩:=h.freeze s
  exact qeM l h1
theorem qeQ {wr:List Nat} :(l:List Nat)→ {σ:St} →(∀s∈l,s∈wr)→Fr wr σ (qiS l σ)
 |[],σ,_=>Fr.refl _ _
 |s::l,σ,h=>by
  have h1:Fr wr σ (qv σ [⟨s,false,(qA σ s).2.freeze⟩]):=qg6 _ fun u hu=>by
   rw [List.mem_singleton.1 hu]
   exact h s List.mem_cons_self
  exact h1.trans (qeQ l fun s' hs=>h s' (List.mem_cons_of_mem _ hs))
theorem qrZ {σ:St} {own:Nat→List Nat} (s:Nat) (h:qar C σ tm w own):∃own',qar C (qmf σ s) tm w own':=by
 unfold qmf
 split
 ·rename_i t x hs
  obtain ⟨own',h1,_⟩:=h.expose (u:=t) (x:=x) (f:=false) hs rfl (by simp [BC.get,Ty.sub_self])
  exact ⟨own',h1⟩
 ·exact ⟨own,h⟩
theorem qmw:(l:List Nat)→ {σ:St} → {own:Nat→List Nat} →qar C σ tm w own→∃own',qar C (qoF l σ) tm w own'
 |[],_,own,h=>⟨own,h⟩
 |s::l,σ,own,h=>by
  obtain ⟨own1,h1⟩:=qrZ s h
  exact qmw l h1
theorem qju {wr:List Nat} :(l:List Nat)→ {σ:St} →(∀s∈l,s∈wr)→Fr wr σ (qoF l σ)
 |[],σ,_=>Fr.refl _ _
 |s::l,σ,h=>by
  have h1:Fr wr σ (qmf σ s):=by
   unfold qmf
   split
   ·rename_i t x _
    exact qg6 [⟨s,true,.view t x 0⟩] fun u hu=>by
     rw [List.mem_singleton.1 hu]
     exact h s List.mem_cons_self
   ·exact Fr.refl _ _
  exact h1.trans (qju l fun s' hs=>h s' (List.mem_cons_of_mem _ hs))
theorem qkD {σ1 σ2:St} :(l:List Nat)→∀s∈qnB σ1 σ2 l,s∈l
 |[],s,h=>h
 |x::l,s,h=>by
  simp only [qnB] at h
  split at h
  ·rcases List.mem_cons.1 h with rfl|h
   ·exact List.mem_cons_self
   ·exact List.mem_cons_of_mem _ (qkD l s h)
  ·exact List.mem_cons_of_mem _ (qkD l s h)
theorem qiC {σ:St} :(l:List (Nat×qf0))→∀s∈qhx σ l,∃q∈l,q.1=s
 |[],s,h=>by cases h
 |x::l,s,h=>by
  simp only [qhx] at h
  split at h
  ·rcases List.mem_cons.1 h with rfl|h
   ·exact ⟨x,List.mem_cons_self,rfl⟩
   ·obtain ⟨q,hq,e⟩:=qiC l s h
    exact ⟨q,List.mem_cons_of_mem _ hq,e⟩
  ·obtain ⟨q,hq,e⟩:=qiC l s h
   exact ⟨q,List.mem_cons_of_mem _ hq,e⟩
theorem qtw {wr:List Nat} {l:List (Nat×qf0)} {σ:St} (h:∀q∈l,q.1∈wr):Fr wr σ (fixL l σ):=qeQ _ fun s hs=>by
 obtain ⟨q,hq,rfl⟩:=qiC l s hs
 exact h q hq
theorem qug {frz:List (Nat×List Nat)} {wr:List Nat} {id:Nat} {ops:Array Oper} {d:Bool} {σ':St} {c:List Bool} {ds:List Nat} (he:regE E frz wr id ops d σ=some (σ',c,ds)):Fr wr σ σ'∧Fr ds σ σ'∧∀s∈ds,s∈wr:=by
 unfold regE at he
 split at he
 ·obtain ⟨h1,_,h3⟩:=qkz he
  exact ⟨h1,h3,qj3 he⟩
 ·rename_i fz _
  split at he
  case isFalse=>cases he
  rename_i hall
  split at he
  case h_2=>cases he
  rename_i σ1 c1 d1 h1
  injection he with he
  simp only [Prod.mk.injEq] at he
  obtain ⟨rfl,rfl,rfl⟩:=he
  obtain ⟨g1,_,g3⟩:=qkz h1
  simp only [Bool.and_eq_true] at hall
  have hsub:∀s∈qgw frz (some id),s∈wr:=fun s hs=>by
   have:=List.all_eq_true.1 hall.1 s hs
   simpa using this
  have hex:∀s∈qgw frz (some (id+2000000000)),s∈qgw frz (some id):=fun s hs=>by
   have:=List.all_eq_true.1 hall.2 s hs
   simpa using this
  refine ⟨((qeQ _ hsub).trans (qju _ fun s hs=>hsub s (hex s hs))).trans g1,((qeQ _ fun s hs=>List.mem_append_left _ hs).trans (qju _ fun s hs=>List.mem_append_left _ (hex s hs))).trans (g3.mono fun s hs=>List.mem_append_right _ hs),fun s hs=> ?_⟩
  rcases List.mem_append.1 hs with hs|hs
  ·exact hsub s hs
  ·exact qj3 h1 s hs
theorem qtQ (hE:qbZ E C.P) {pin:List Nat} (hF:qpz E C pin) {frz:List (Nat×List Nat)} {wr:List Nat} {id:Nat} {ops:Array Oper} {d:Bool} {Q:Exit→Act→World→Prop} {σ':St} {c:List Bool} {ds:List Nat} (hp:qoe pin ops.toList=true) (he:regE E frz wr id ops d σ=some (σ',c,ds)) (hc:qeV c) (hpc:quz C a.tmps) (h:qar C σ a.tmps w own)
  (hQ:∀a' w' own',qei pin a a'→qar C σ' a'.tmps w' own'→Q .normal a' w'):(Code.region id ops d).wp C.P Q a w:=by
 unfold regE at he
 split at he
 ·exact qkJ hE hF hp he hc hpc h hQ
 ·split at he
  case isFalse=>cases he
  split at he
  case h_2=>cases he
  rename_i σ1 c1 d1 h1
  injection he with he
  simp only [Prod.mk.injEq] at he
  obtain ⟨rfl,rfl,rfl⟩:=he
  obtain ⟨own1,hst⟩:=qeM (qgw frz (some id)) h
  obtain ⟨own2,hst2⟩:=qmw (qgw frz (some (id+2000000000))) hst
  exact qkJ hE hF hp h1 hc hpc hst2 hQ
theorem qjv {frz:List (Nat×List Nat)} {wr:List Nat} :(c:Code)→ {σ σ':St} → {ch:List Bool} → {ds:List Nat} →qrN E frz wr c σ=some (σ',ch,ds)→Fr wr σ σ'∧Fr ds σ σ'∧∀s∈ds,s∈wr
 | .skip,σ,σ',ch,ds,he=>by
  simp only [qrN,Option.some.injEq,Prod.mk.injEq] at he
  obtain ⟨rfl,rfl,rfl⟩:=he
  exact ⟨Fr.refl _ _,Fr.refl _ _,fun s hs=>by cases hs⟩
 | .region _ ops d,σ,σ',ch,ds,he=>by
  exact qug he
 | .seq x y,σ,σ',ch,ds,he=>by
  simp only [qrN] at he
  split at he
  case h_2=>cases he
  rename_i σ1 c1 d1 h1
  split at he
  case h_2=>cases he
  rename_i σ2 c2 d2 h2
  injection he with he
  simp only [Prod.mk.injEq] at he
  obtain ⟨rfl,rfl,rfl⟩:=he
  obtain ⟨g1,g2,g3⟩:=qjv x h1
  obtain ⟨k1,k2,k3⟩:=qjv y h2
  refine ⟨g1.trans k1,(g2.mono fun s hs=>List.mem_append_left _ hs).trans (k2.mono fun s hs=>List.mem_append_right _ hs),fun s hs=> ?_⟩
  rcases List.mem_append.1 hs with hs|hs
  ·exact g3 s hs
  ·exact k3 s hs
 | .cond c x y,σ,σ',ch,ds,he=>by
  simp only [qrN] at he
  split at he
  case h_2=>cases he
  split at he
  case h_2=>cases he
  rename_i σ1 c1 d1 σ2 c2 d2 h1 h2
  injection he with he
  simp only [Prod.mk.injEq] at he
  obtain ⟨rfl,rfl,rfl⟩:=he
  obtain ⟨g1,g2,g3⟩:=qjv x h1
  obtain ⟨k1,k2,k3⟩:=qjv y h2
  have hsub:∀s∈d1++d2,s∈wr:=fun s hs=>by
   rcases List.mem_append.1 hs with hs|hs
   ·exact g3 s hs
   ·exact k3 s hs
  exact ⟨qp6 hsub,qp6 fun s hs=>hs,hsub⟩
 | .label _,_,_,_,_,he=>by cases he
 | .block _ _,_,_,_,_,he=>by cases he
 | .loop _,_,_,_,_,he=>by cases he
 | .exit _,_,_,_,_,he=>by cases he
 | .goto _,_,_,_,_,he=>by cases he
 | .ret,_,_,_,_,he=>by cases he
theorem qqU {b:Bool} {c d:List Bool} (h:qeV (qqH b c d)):qeV (bif b then c else d):=by
 unfold qqH at h
 split at h
 ·cases b <;> exact fun x hx=>by cases hx
 ·have:=h _ (List.mem_singleton.2 rfl)
  cases b
  ·exact qlY this
  ·exact qlY this
theorem qmm (hE:qbZ E C.P) {frz:List (Nat×List Nat)} {pin wr:List Nat} (hF:qpz E C pin):(c:Code)→qkC pin c=true→ {σ σ':St} → {ch:List Bool} → {ds:List Nat} → {Q1:Exit→Act→World→Prop} → {a:Act} → {w:World} → {own:Nat→List Nat} →qrN E frz wr c σ=some (σ',ch,ds)→qeV ch→quz C a.tmps→qar C σ a.tmps w own→
  (∀a' w' own',qei pin a a'→qar C σ' a'.tmps w' own'→Q1 .normal a' w')→c.wp C.P Q1 a w
 | .skip,hp,σ,σ',ch,ds,Q1,a,w,own,he,_,hpc,h,hQ=>by
  simp only [qrN,Option.some.injEq,Prod.mk.injEq] at he
  obtain ⟨rfl,rfl,rfl⟩:=he
  exact wp_skip (hQ a w own (qei.refl _ _) h)
 | .region _ ops d,hp,σ,σ',ch,ds,Q1,a,w,own,he,hc,hpc,h,hQ=>qtQ hE hF hp he hc hpc h hQ
 | .seq x y,hp,σ,σ',ch,ds,Q1,a,w,own,he,hc,hpc,h,hQ=>by
  simp only [qrN] at he
  split at he
  case h_2=>cases he
  rename_i σ1 c1 d1 h1
  split at he
  case h_2=>cases he
  rename_i σ2 c2 d2 h2
  injection he with he
  simp only [Prod.mk.injEq] at he
  obtain ⟨rfl,rfl,rfl⟩:=he
  simp only [qkC,Bool.and_eq_true] at hp
  refine wp_seq (qmm hE hF x hp.1 h1 (fun b hb=>hc b (List.mem_append_left _ hb)) hpc h fun a1 w1 own1 hd1 hst1=> ?_)
  exact qmm hE hF y hp.2 h2 (fun b hb=>hc b (List.mem_append_right _ hb)) (hd1.pinC hF hpc) hst1 fun a2 w2 own2 hd2 hst2=>hQ a2 w2 own2 (hd2.trans hd1) hst2
 | .cond c x y,hp,σ,σ',ch,ds,Q1,a,w,own,he,hc,hpc,h,hQ=>by
  simp only [qrN] at he
  split at he
  case h_2=>cases he
  rename_i b ow hb
  split at he
  case h_2=>cases he
  rename_i σ1 c1 d1 σ2 c2 d2 h1 h2
  injection he with he
  simp only [Prod.mk.injEq] at he
  obtain ⟨rfl,rfl,rfl⟩:=he
  have hch:=qqU hc
  simp only [qkC,Bool.and_eq_true] at hp
  have f1:=(qjv x h1).2.1.mono (wr':=d1++d2) fun s hs=>List.mem_append_left _ hs
  have f2:=(qjv y h2).2.1.mono (wr':=d1++d2) fun s hs=>List.mem_append_right _ hs
  refine wp_cond (qtu hpc h hb) ?_
  have z1:=f1.trans (qeQ (qnB σ1 σ2 (d1++d2)) (qkD _))
  have z2:=f2.trans (qeQ (qnB σ2 σ1 (d1++d2)) (qkD _))
  cases b with
  |true=>
   refine qmm hE hF x hp.1 h1 hch hpc h fun a1 w1 own1 hd1 hst1=> ?_
   obtain ⟨own2,hst2⟩:=qeM (qnB σ1 σ2 (d1++d2)) hst1
   exact hQ a1 w1 own2 hd1 (qar.join (b:=true) hst2 z1 z2)
  |false=>
   refine qmm hE hF y hp.2 h2 hch hpc h fun a1 w1 own1 hd1 hst1=> ?_
   obtain ⟨own2,hst2⟩:=qeM (qnB σ2 σ1 (d1++d2)) hst1
   exact hQ a1 w1 own2 hd1 (qar.join (b:=false) hst2 z1 z2)
 | .label _,_,_,_,_,_,_,_,_,_,he,_,_,_,_=>by cases he
 | .block _ _,_,_,_,_,_,_,_,_,_,he,_,_,_,_=>by cases he
 | .loop _,_,_,_,_,_,_,_,_,_,he,_,_,_,_=>by cases he
 | .exit _,_,_,_,_,_,_,_,_,_,he,_,_,_,_=>by cases he
 | .goto _,_,_,_,_,_,_,_,_,_,he,_,_,_,_=>by cases he
 | .ret,_,_,_,_,_,_,_,_,_,he,_,_,_,_=>by cases he
theorem qlx {R:Type} {c:List Bool} {r:Option R} {x:R} (h:andThen c r=some x):qeV c∧r=some x:=by
 unfold andThen at h
 split at h
 ·refine ⟨fun b hb=> ?_,h⟩
  cases hb
 ·cases hc:qwG c with
  |true=>rw [hc] at h; exact ⟨qlY hc,h⟩
  |false=>rw [hc] at h; cases h
structure KOk {R:Type} (C:Ctx) (pin:List Nat) (k:K R) (r:R) (wr:List Nat) (σ:St) (ds:Act) (Q1:Exit→Act→World→Prop):Prop where
 n:∀σ' a' w' own',Fr wr σ σ'→qei pin ds a'→qar C σ' a'.tmps w' own'→k.n σ'=some r→Q1 .normal a' w'
 e:∀i σ' a' w' own',Fr wr σ σ'→qei pin ds a'→qar C σ' a'.tmps w' own'→k.e i σ'=some r→Q1 (.exit i) a' w'
 r:∀σ' a' w' own',Fr wr σ σ'→qei pin ds a'→qar C σ' a'.tmps w' own'→k.r σ'=some r→Q1 .ret a' w'
theorem KOk.fr {R:Type} {pin:List Nat} {k:K R} {r:R} {wr wr':List Nat} {ds ds':Act} {Q1:Exit→Act→World→Prop} (h:KOk C pin k r wr σ ds Q1) (hd:qei pin ds ds') (hs:∀s∈wr',s∈wr) (hf:Fr wr σ τ):KOk C pin k r wr' τ ds' Q1:=
 ⟨fun σ' a' w' own' f g=>h.n σ' a' w' own' (hf.trans (f.mono hs)) (g.trans hd),fun i σ' a' w' own' f g=>h.e i σ' a' w' own' (hf.trans (f.mono hs)) (g.trans hd),fun σ' a' w' own' f g=>h.r σ' a' w' own' (hf.trans (f.mono hs)) (g.trans hd)⟩
theorem qoW {σ:St} {s v:Nat} {a:AV} (h:qA σ s=(v,a)) (ha:a≠ .undef):σ.set s (v,a)=σ:=by
 have hl:s<σ.length:=qjT (by rw [h]; exact ha)
 rw [←h]
 simp only [qA,List.getD_eq_getElem?_getD,List.getElem?_eq_getElem hl,Option.getD_some]
 exact List.set_getElem_self hl
theorem qdS {R:Type} :(l:List Nat)→(σ:St)→(k:St→Option R)→qgp l σ k=k σ
 |[],_,_=>rfl
 |s::r,σ,k=>by
  unfold qgp
  split
  ·rename_i v t x h
   rw [qJ,qoW h (fun h=>by cases h)]
   exact qdS r σ k
  ·rename_i v et e xs h
   rw [qJ,qoW h (fun h=>by cases h)]
   exact qdS r σ k
  ·rename_i v t x h
   rw [qJ,qoW h (fun h=>by cases h)]
   exact qdS r σ k
  ·exact qdS r σ k
theorem qv1 (hE:qbZ E C.P) {N:Nat} {anns:qwr} {R:Type} {pin:List Nat} {r:R} (hF:qpz E C pin) (c:Code):qkC pin c=true→∀ {wr:List Nat} {σ:St} {k:K R} {Q1:Exit→Act→World→Prop} {a:Act} {w:World} {own:Nat→List Nat},
  qqf E N anns c wr σ k=some r→quz C a.tmps→qar C σ a.tmps w own→KOk C pin k r wr σ a Q1→c.wp C.P Q1 a w:=by
 induction c with
 |skip=>intro hp wr σ k Q1 a w own he hpc h hk; exact wp_skip (hk.n σ a w own (Fr.refl _ _) (qei.refl _ _) h he)
 |region id ops d=>
  intro hp wr σ k Q1 a w own he hpc h hk
  simp only [qqf,qdS] at he
  split at he
  case h_2=>cases he
  rename_i σ1 c1 d1 h1
  obtain ⟨hc,he⟩:=qlx he
  exact qtQ hE hF hp h1 hc hpc h fun a1 w1 own1 hd1 hst1=>hk.n _ a1 w1 own1 (qug h1).1 hd1 hst1 he
 |seq x y ihx ihy=>
  intro hp wr σ k Q1 a w own he hpc h hk
  simp only [qkC,Bool.and_eq_true] at hp
  refine wp_seq (ihx hp.1 he hpc h ⟨fun σ' a' w' own' f hd hst he'=> ?_,fun i σ' a' w' own' f hd hst he'=>hk.e i σ' a' w' own' f hd hst he',fun σ' a' w' own' f hd hst he'=>hk.r σ' a' w' own' f hd hst he'⟩)
  exact ihy hp.2 he' (hd.pinC hF hpc) hst (hk.fr hd (fun s hs=>hs) f)
 |cond c x y ihx ihy=>
  intro hp wr σ k Q1 a w own he hpc h hk
  simp only [qqf,qdS] at he
  cases hamb:qwy c σ with
  |some wm=>
   obtain ⟨w0,m⟩:=wm
   simp only [qkC,Bool.and_eq_true] at hp
   obtain ⟨b,hev,hbm⟩:∃b,a.eval c= .bool b∧(b=w0→m=true):=by
    unfold qwy at hamb
    split at hamb
    case h_2=>cases hamb
    rename_i t
    split at hamb
    case h_2=>cases hamb
    rename_i w1 m1 hat
    injection hamb with hamb
    injection hamb with e1 e2
    subst e1; subst e2
    have:=h.at_ t
    rw [hat] at this
    obtain ⟨_,b,h1,h2⟩:=this
    exact ⟨b,h1,h2⟩
   simp only [hamb] at he
   refine wp_cond hev ?_
   cases m with
   |true=>
    simp only [cond_true,qpd] at he
    split at he
    case isFalse=>cases he
    rename_i hag
    cases b with
    |true=>exact ihx hp.1 he hpc h hk
    |false=>exact ihy hp.2 (hag ▸ he) hpc h hk
   |false=>
    simp only [cond_false] at he
    have hne:b≠w0:=fun e=>by cases hbm e
    cases b <;> cases w0 <;> simp only at he <;> first|exact absurd rfl hne|exact ihx hp.1 he hpc h hk|exact ihy hp.2 he hpc h hk
  |none=>
  simp only [hamb] at he
  split at he
  case h_2=>cases he
  rename_i b ow hb
  split at he
  ·split at he
   case h_2=>cases he
   rename_i σ1 c1 d1 h1
   obtain ⟨hc,he⟩:=qlx he
   exact qmm hE hF (.cond c x y) hp h1 hc hpc h fun a1 w1 own1 hd1 hst1=>hk.n _ a1 w1 own1 (qjv _ h1).1 hd1 hst1 he
  ·simp only [qkC,Bool.and_eq_true] at hp
   refine wp_cond (qtu hpc h hb) ?_
   cases b with
   |true=>exact ihx hp.1 he hpc h hk
   |false=>exact ihy hp.2 he hpc h hk
 |block id x ih=>
  intro hp wr σ k Q1 a w own he hpc h hk
  refine wp_block (ih hp he hpc h ⟨fun σ' a' w' own' f hd hst he'=>hk.n σ' a' w' own' f hd hst he',fun i σ' a' w' own' f hd hst he'=> ?_,fun σ' a' w' own' f hd hst he'=>hk.r σ' a' w' own' f hd hst he'⟩)
  simp only at he'
  by_cases hi:i=id
  ·rw [if_pos hi] at he'
   subst hi
   simpa [Exit.inBlock] using hk.n σ' a' w' own' f hd hst he'
  ·rw [if_neg hi] at he'
   simpa [Exit.inBlock,hi] using hk.e i σ' a' w' own' f hd hst he'
 |exit id=>intro hp wr σ k Q1 a w own he hpc h hk; exact wp_exit (hk.e id σ a w own (Fr.refl _ _) (qei.refl _ _) h he)
 |ret=>intro hp wr σ k Q1 a w own he hpc h hk; exact wp_ret (hk.r σ a w own (Fr.refl _ _) (qei.refl _ _) h he)
 |loop x ih=>
  intro hp wr σ k Q1 a w own he hpc h hk
  simp only [qqf,qdS] at he
  split at he
  case h_2=>cases he
  rename_i A hA
  split at he
  case isFalse=>cases he
  rename_i hcond
  simp only [Bool.and_eq_true] at hcond
  obtain ⟨⟨c1,c2⟩,c3⟩:=hcond
  split at he
  case h_2=>cases he
  rename_i p0 hp0
  have hsub:∀s∈A.wr,s∈wr:=fun s hs=>by
   have:=List.all_eq_true.1 c1 s hs
   simpa using this
  have hlive:∀q∈A.live,q.1∈A.wr:=fun q hq=>by
   have:=List.all_eq_true.1 c2 q hq
   simpa using this
  have hn:=qeW c3
  obtain ⟨own0,h0⟩:=qeM (qhx σ A.live) h
  refine wp_loop_ghost (fun n a' w'=>∃q own',qar C (qgU A σ q) a'.tmps w' own'∧qei pin a a'∧qY n (fun ih p=>qqf E N anns x A.wr (qgU A σ p) { k with n:=fun σ'=>match qqm A.live (fixL A.live σ') with
     |some q=>ih q
     |none=>none }) q=some r) N ⟨p0,own0,qar.head (τ:=fixL A.live σ) h0 hlive hn h.wf (qtw hlive) hp0,qei.refl _ _,he⟩ ?_
  rintro n a1 w1 ⟨q,own1,hst,hd1,hit⟩
  cases n with
  |zero=>cases hit
  |succ n=>
   have hfr:=qpH (σ:=σ) hlive hn q
   refine ih hp hit (hd1.pinC hF hpc) hst ⟨fun σ' a' w' own' f hd hst' he'=> ?_,fun i σ' a' w' own' f hd hst' he'=> ?_,fun σ' a' w' own' f hd hst' he'=> ?_⟩
   ·simp only at he'
    split at he'
    case h_2=>cases he'
    rename_i q' hq'
    obtain ⟨own2,hst2⟩:=qeM (qhx σ' A.live) hst'
    exact ⟨n,Nat.lt_succ_self n,q',own2,qar.head (τ:=fixL A.live σ') hst2 hlive hn h.wf ((hfr.trans f).trans (qtw hlive)) hq',hd.trans hd1,he'⟩
   ·exact hk.e i σ' a' w' own' ((hfr.trans f).mono hsub) (hd.trans hd1) hst' he'
   ·exact hk.r σ' a' w' own' ((hfr.trans f).mono hsub) (hd.trans hd1) hst' he'
 |_=>intro hp wr σ k Q1 a w own he hpc h hk; cases he
end
end Go.Vi
namespace Go.Vi
open Go.RowKit
section
variable {C:Ctx} {E:Env} {σ τ:St} {tm:Array Value} {a:Act} {w w':World} {own:Nat→List Nat} {o:Oper} {p:qh1} [Tabbed E C]
theorem qfT: {l:List (List Nat)} →l.flatten.Nodup→(∀i,(l.getD i []).Nodup)∧∀i j b,b∈l.getD i []→b∈l.getD j []→i=j
 |[],_=>⟨fun i=>by simp,fun i j b h=>by simp at h⟩
 |x::l,h=>by
  rw [List.flatten_cons] at h
  obtain ⟨h1,h2,h3⟩:=List.nodup_append.1 h
  obtain ⟨k1,k2⟩:=qfT h2
  have mem:∀i b,b∈l.getD i []→b∈l.flatten:=fun i b hb=>by
   rw [List.getD_eq_getElem?_getD] at hb
   cases hi:l[i]? with
   |none=>rw [hi] at hb; simp at hb
   |some y=>
    rw [hi] at hb
    exact List.mem_flatten.2 ⟨y,List.mem_of_getElem? hi,by simpa using hb⟩
  refine ⟨fun i=> ?_,fun i j b hi hj=> ?_⟩
  ·cases i with
   |zero=>simpa using h1
   |succ i=>simpa using k1 i
  ·cases i with
   |zero=>
    cases j with
    |zero=>rfl
    |succ j=>exact (h3 b (by simpa using hi) b (mem j b (by simpa using hj)) rfl).elim
   |succ i=>
    cases j with
    |zero=>exact (h3 b (by simpa using hj) b (mem i b (by simpa using hi)) rfl).elim
    |succ j=>rw [k2 i j b (by simpa using hi) (by simpa using hj)]
theorem qfh {X:Sit} {F:Nat→Prop} (hF:∀b,F b→b<X.w.heap.size→X.F b):(ps:List PM)→ {x:PMs.den ps} → {vs:List Value} → {g i:List Nat} →qaD X.P X.w F ps x vs g i→(g++i).Nodup→
  ∃owns:List (List Nat),owns.length=ps.length∧vs.length=ps.length∧(qcc ps x).length=ps.length∧owns.flatten.Nodup∧(∀b∈owns.flatten,b∈g++i)∧
   ∀k,k<ps.length→qaN X (qA (qcc ps x) k).2 (vs.getD k undef) (owns.getD k [])∧(qA (qcc ps x) k).2.mentions=[]
 |[],x,vs,g,i,⟨h1,h2,h3⟩,_=>⟨[],rfl,by rw [h1]; rfl,rfl,by simp,fun b hb=>by simp at hb,fun k hk=>by cases hk⟩
 | .val t::ps,x,vs,g,i,⟨v,r,h1,h2,h3⟩,hn=>by
  obtain ⟨owns,k1,k2,k3,k4,k5,k6⟩:=qfh hF ps h3 hn
  refine ⟨[]::owns,by simp [k1],by rw [h1]; simp [k2],by simp [qcc,k3],by simpa using k4,by simpa using k5,fun k hk=> ?_⟩
  cases k with
  |zero=>exact ⟨⟨rfl,by rw [h1]; exact h2.mono hF⟩,rfl⟩
  |succ k=>rw [h1]; exact k6 k (by simpa using hk)
 | .nil et e::ps,x,vs,g,i,⟨r,h1,h3⟩,hn=>by
  obtain ⟨owns,k1,k2,k3,k4,k5,k6⟩:=qfh hF ps h3 hn
  refine ⟨[]::owns,by simp [k1],by rw [h1]; simp [k2],by simp [qcc,k3],by simpa using k4,by simpa using k5,fun k hk=> ?_⟩
  cases k with
  |zero=>exact ⟨⟨rfl,by rw [h1]; rfl⟩,rfl⟩
  |succ k=>rw [h1]; exact k6 k (by simpa using hk)
 | .rd t::ps,x,vs,g,i,⟨ad,cs,r,h1,h2,h3,h4,h5,h6⟩,hn=>by
  obtain ⟨owns,k1,k2,k3,k4,k5,k6⟩:=qfh hF ps h6 hn
  refine ⟨[]::owns,by simp [k1],by rw [h1]; simp [k2],by simp [qcc,k3],by simpa using k4,by simpa using k5,fun k hk=> ?_⟩
  cases k with
  |zero=>exact ⟨⟨rfl,ad,cs,by rw [h1]; simp [Addr.add],hF _ h2 h3,h3,h4,h5.keep fun b hb hlt=>⟨hF b hb hlt,hlt,rfl⟩⟩,rfl⟩
  |succ k=>rw [h1]; exact k6 k (by simpa using hk)
 | .ior et e::ps,x,vs,g,i,⟨v,r,i1,i2,h1,h2,h3,h4⟩,hn=>by
  rw [h2] at hn
  have hn':=List.nodup_append.1 hn
  have hni:=List.nodup_append.1 hn'.2.1
  have hn2:(g++i2).Nodup:=List.nodup_append.2 ⟨hn'.1,hni.2.1,fun b hb b' hb'=>hn'.2.2 b hb b' (List.mem_append_right _ hb')⟩
  obtain ⟨owns,k1,k2,k3,k4,k5,k6⟩:=qfh hF ps h4 hn2
  refine ⟨i1::owns,by simp [k1],by rw [h1]; simp [k2],by simp [qcc,k3],?_,?_,fun k hk=> ?_⟩
  ·rw [List.flatten_cons]
   refine List.nodup_append.2 ⟨hni.1,k4,fun b hb b' hb' e=> ?_⟩
   subst e
   rcases List.mem_append.1 (k5 b hb') with hm|hm
   ·exact hn'.2.2 b hm b (List.mem_append_left _ hb) rfl
   ·exact hni.2.2 b hb b hm rfl
  ·intro b hb
   rw [List.flatten_cons] at hb
   rw [h2]
   rcases List.mem_append.1 hb with hb|hb
   ·exact List.mem_append_right _ (List.mem_append_left _ hb)
   ·rcases List.mem_append.1 (k5 b hb) with hm|hm
    ·exact List.mem_append_left _ hm
    ·exact List.mem_append_right _ (List.mem_append_right _ hm)
  ·cases k with
   |zero=>exact ⟨by rw [h1]; exact h3.keep (fun b hb hlt=>⟨hF b hb hlt,hlt,rfl⟩) (fun _ _ _=>rfl),rfl⟩
   |succ k=>rw [h1]; exact k6 k (by simpa using hk)
 | .fn ts us::ps,x,vs,g,i,⟨v,r,h1,h2,h3⟩,hn=>by
  obtain ⟨owns,k1,k2,k3,k4,k5,k6⟩:=qfh hF ps h3 hn
  refine ⟨[]::owns,by simp [k1],by rw [h1]; simp [k2],by simp [qcc,k3],by simpa using k4,by simpa using k5,fun k hk=> ?_⟩
  cases k with
  |zero=>exact ⟨⟨rfl,by rw [h1]; exact h2.keep fun b hb hlt=>⟨hF b hb hlt,hlt,rfl⟩⟩,rfl⟩
  |succ k=>rw [h1]; exact k6 k (by simpa using hk)
 | .own et e::ps,x,vs,g,i,⟨v,r,g1,g2,h1,h2,h3,h4⟩,hn=>by
  rw [h2,List.append_assoc] at hn
  obtain ⟨n1,n2,n3⟩:=List.nodup_append.1 hn
  obtain ⟨owns,k1,k2,k3,k4,k5,k6⟩:=qfh hF ps h4 n2
  refine ⟨g1::owns,by simp [k1],by rw [h1]; simp [k2],by simp [qcc,k3],?_,?_,fun k hk=> ?_⟩
  ·rw [List.flatten_cons]
   exact List.nodup_append.2 ⟨n1,k4,fun b hb b' hb'=>n3 b hb b' (k5 b' hb')⟩
  ·intro b hb
   rw [List.flatten_cons] at hb
   rw [h2,List.append_assoc]
   rcases List.mem_append.1 hb with hb|hb
   ·exact List.mem_append_left _ hb
   ·exact List.mem_append_right _ (k5 b hb)
  ·cases k with
   |zero=>exact ⟨by rw [h1]; exact h3.keep (fun b hb hlt=>⟨hF b hb hlt,hlt,rfl⟩) (fun _ _ _=>rfl),rfl⟩
   |succ k=>rw [h1]; exact k6 k (by simpa using hk)
 | .io t::ps,x,vs,g,i,⟨b0,r,i2,cs,te,h1,h2,h3,h4,h5⟩,hn=>by
  rw [h2] at hn
  have hn':=List.nodup_append.1 hn
  have hni:=List.nodup_cons.1 hn'.2.1
  have hn2:(g++i2).Nodup:=List.nodup_append.2 ⟨hn'.1,hni.2,fun b hb b' hb'=>hn'.2.2 b hb b' (List.mem_cons_of_mem _ hb')⟩
  obtain ⟨owns,k1,k2,k3,k4,k5,k6⟩:=qfh hF ps h5 hn2
  refine ⟨[b0]::owns,by simp [k1],by rw [h1]; simp [k2],by simp [qcc,k3],?_,?_,fun k hk=> ?_⟩
  ·rw [List.flatten_cons]
   refine List.nodup_append.2 ⟨by simp,k4,fun b hb b' hb' e=> ?_⟩
   simp at hb
   subst hb; subst e
   rcases List.mem_append.1 (k5 b hb') with hm|hm
   ·exact hn'.2.2 b hm b List.mem_cons_self rfl
   ·exact hni.1 hm
  ·intro b hb
   rw [List.flatten_cons] at hb
   rw [h2]
   rcases List.mem_append.1 hb with hb|hb
   ·simp at hb; subst hb; simp
   ·rcases List.mem_append.1 (k5 b hb) with hm|hm
    ·exact List.mem_append_left _ hm
    ·exact List.mem_append_right _ (List.mem_cons_of_mem _ hm)
  ·cases k with
   |zero=>exact ⟨⟨b0,cs,[],te,by rw [h1]; rfl,h3,⟨rfl,h4.keep fun b hb hlt=>⟨hF b hb hlt,hlt,rfl⟩⟩,rfl⟩,rfl⟩
   |succ k=>rw [h1]; exact k6 k (by simpa using hk)
theorem qh6 {fn:Func} {ps:List PM} {x:PMs.den ps} {k:Nat} (hl:(qcc ps x).length=ps.length) (hk:k<ps.length):qA (qfP fn ps x) k=qA (qcc ps x) k:=by
 simp [qA,qfP,List.getD_eq_getElem?_getD,List.getElem?_append_left (show k<(qcc ps x).length by omega)]
theorem qhN {fn:Func} {ps:List PM} {x:PMs.den ps} {k:Nat} (hl:(qcc ps x).length=ps.length) (hk:¬k<ps.length):qA (qfP fn ps x) k=(0,.undef):=by
 simp only [qA,qfP,List.getD_eq_getElem?_getD]
 rw [List.getElem?_append_right (by omega),List.getElem?_replicate]
 split <;> rfl
theorem qvw {pn:Nat→Option Nat} {P:Program} {F:Nat→Prop} {fn:Func} {ps:List PM} {x:PMs.den ps} {vs:List Value} {g i:List Nat} {T:qly} (hT:qdD T w fun b=>F b∧¬b∈g++i) (hlen:ps.length≤fn.ntmps) (hp:qaD P w F ps x vs g i) (hpre:∀b∈g++i,¬F b∧b<w.heap.size) (hn:(g++i).Nodup):
  ∃own,qar { P,w0:=w,O:=fun b=>b∈g++i,G:=F,pn,T,hT } (qfP fn ps x) (vs.toArray++Array.replicate (fn.ntmps - vs.toArray.size) undef) w own:=by
 have base:∃owns:List (List Nat),owns.length=ps.length∧vs.length=ps.length∧(qcc ps x).length=ps.length∧owns.flatten.Nodup∧(∀b∈owns.flatten,b∈g++i)∧
   ∀k,k<ps.length→qaN { P,ver:=fun s=>(qA (qfP fn ps x) s).1,tm:=fun s=>(vs.toArray++Array.replicate (fn.ntmps - vs.toArray.size) undef).getD s undef,w,F:=fun b=>F b,own:=fun _=>[],pn } (qA (qcc ps x) k).2 (vs.getD k undef) (owns.getD k [])∧(qA (qcc ps x) k).2.mentions=[]:=
  qfh (X:= { P,ver:=_,tm:=_,w,F:=fun b=>F b,own:=fun _=>[],pn }) (fun b hb _=>hb) ps hp hn
 obtain ⟨owns,k1,k2,k3,k4,k5,k6⟩:=base
 obtain ⟨n1,n2⟩:=qfT k4
 have mem:∀s b,b∈owns.getD s []→b∈g++i:=fun s b hb=>by
  refine k5 b ?_
  rw [List.getD_eq_getElem?_getD] at hb
  cases hi:owns[s]? with
  |none=>rw [hi] at hb; simp at hb
  |some y=>
   rw [hi] at hb
   exact List.mem_flatten.2 ⟨y,List.mem_of_getElem? hi,by simpa using hb⟩
 have hsl:(qfP fn ps x).length=fn.ntmps:=by simp [qfP,k3]; omega
 have hz:∀k,¬k<ps.length→owns.getD k []=[]:=fun k hk=>by
  rw [List.getD_eq_getElem?_getD,List.getElem?_eq_none (by omega)]; rfl
 refine ⟨fun s=>owns.getD s [],⟨?_,qc7.refl _ _,fun s b hb=>⟨.inl (mem s b hb),(hpre b (mem s b hb)).2⟩,n1,n2,fun s hs=>hz s (by omega),fun s hs=> ?_,fun s m hm=> ?_⟩⟩
 ·simp [hsl,k2]; omega
 ·by_cases hk:s<ps.length
  ·rw [qh6 k3 hk]
   obtain ⟨h1,h2⟩:=k6 s hk
   have e:(vs.toArray++Array.replicate (fn.ntmps - vs.toArray.size) undef).getD s undef=vs.getD s undef:=by
    rw [Array.getD_eq_getD_getElem?,Array.getElem?_append_left (by simp [k2]; exact hk),List.getD_eq_getElem?_getD]
    simp
   rw [e]
   refine qaN.keep (X:= { P,ver:=fun s=>(qA (qfP fn ps x) s).1,tm:=fun s=>(vs.toArray++Array.replicate (fn.ntmps - vs.toArray.size) undef).getD s undef,w,F:=fun b=>F b,own:=fun _=>[],pn }) (X':=sit { P,w0:=w,O:=fun b=>b∈g++i,G:=F,pn,T,hT } (qfP fn ps x) (vs.toArray++Array.replicate (fn.ntmps - vs.toArray.size) undef) w (fun s=>owns.getD s [])) ⟨rfl,rfl⟩ (fun b hb hlt=>⟨⟨.inl hb,hlt,fun s' hs'=>(hpre b (mem s' b hs')).1 hb⟩,hlt,rfl⟩) (fun _ _ _=>rfl) (fun m hm=>by rw [h2] at hm; cases hm) h1
  ·rw [qhN k3 hk]
   trivial
 ·by_cases hk:s<ps.length
  ·rw [qh6 k3 hk,(k6 s hk).2] at hm
   cases hm
  ·rw [qhN k3 hk] at hm
   cases hm
def qt1 (tmps:Array Value):ResultVar→Sem Value
 | .tmp t=>pure (tmps.getD t undef)
 | .cell a t=>do loadVar t (←asAddr (tmps.getD a undef))
theorem qqW {P:Program} {t:Nat} {u:Ty} (h:TyB P t u) {ad:Addr} {cs:List Value} (hc:qhB w ad cs) (hl:cs.length=u.size):(loadVar t ad).run P w= .ok (mkV u cs) w:=by
 have:=qg5 (w:=w) h hc hl
 simpa only [Instr.loadAt,Instr.sureAddr,Sem.run_bind,Sem.run_pure,Result.andThen_ok] using this
theorem qpV (hE:qbZ E C.P) (h:qar C σ tm w own):(r:RM)→ {v:ResultVar} → {x:r.den×List Nat} →(qpr E r v).run (qA σ)=some x→∃z,(qt1 tm v).run C.P w= .ok z w∧
  (match r,x with
   | .val t,x=>qaA w (FW (sit C σ tm w own) x.2) t x.1 z
   | .own et e,x=>∃s',x.2=[s']∧qah w (C.free w own) et e x.1 z (own s')∧∃ys,(qA σ s').2= .own et e ys)
 | .val t,.tmp s,x,he=>by
  simp only [qpr,Q.run_get] at he
  exact ⟨tm.getD s undef,rfl,qde h (o:=⟨some s,(qA σ s).1,(qA σ s).2⟩) ⟨rfl,rfl,h.at_ s⟩ he⟩
 | .val u,.cell s t,x,he=>by
  simp only [qpr,Q.run_get] at he
  have hat:=h.at_ s
  split at he
  case h_2=>cases he
  rename_i c hc
  split at he
  case isFalse=>cases he
  rename_i hcond
  split at he
  case h_2=>cases he
  rename_i y f hg
  have:=Q.ret_some he
  subst this
  obtain ⟨b0,cs,bs',te,b1,b2,b3,b4⟩:=h.box (a:= { tmps:=tm,defers:=[] }) hc
  obtain ⟨q1,q2,q3⟩:=b3.get hg
  have hcl:=b3.length
  rw [List.drop_zero,List.take_of_length_le (by omega)] at q2
  rw [List.drop_zero,List.take_of_length_le (by omega)] at q3
  refine ⟨mkV u cs,?_,qaA.ofCells ?_⟩
  ·have hcs:qhB w ⟨b0,0,none⟩ cs:=by
    intro j u hj
    rw [qaT,qij b2,Nat.zero_add]
    exact hj
   have hl:=qqW (hE.ty t u hcond.1) hcs (by omega)
   have b1:tm.getD s undef=ptr b0 0:=b1
   simp only [qt1,b1,ptr,asAddr,Sem.run_bind,Sem.run_pure,Result.andThen_ok]
   exact hl
  ·cases f with
   |false=>exact (q3 rfl).keep fun b hb hlt=>⟨.inl hb,hlt,rfl⟩
   |true=>
    refine q2.keep fun b hb hlt=>⟨?_,hlt,rfl⟩
    rcases hb with hb|hb
    ·exact .inl hb
    ·refine .inr ⟨s,List.mem_singleton.2 rfl,by show b∈own s; rw [b4]; exact List.mem_cons_of_mem _ hb,fun e=> ?_⟩
     have e:tm.getD s undef=ptr b 0:=e
     have b1:tm.getD s undef=ptr b0 0:=b1
     rw [b1] at e
     have e:=(qha e).1
     subst e
     have hn:=h.nodup s
     rw [b4] at hn
     exact (List.nodup_cons.1 hn).1 hb
 | .own et e,.tmp s,x,he=>by
  simp only [qpr,Q.run_get] at he
  have hat:=h.at_ s
  split at he
  ·rename_i et' e' xs' h3
   rw [h3] at hat
   split at he
   ·rename_i het
    subst het
    split at he
    ·rename_i xs has
     have:=Q.ret_some he
     subst this
     obtain ⟨e1,e2⟩:=Ty.as_some has
     injection e1 with e1
     subst e1
     have e2:xs'=xs:=e2
     subst e2
     exact ⟨_,rfl,s,rfl,hat,_,h3⟩
    ·cases he
   ·cases he
  ·rename_i s' v0 h3
   rw [h3] at hat
   simp only [Q.run_get] at he
   split at he
   ·rename_i hv
    have hu:tm.getD s' undef=tm.getD s undef:=hat.2 hv
    have hat':=h.at_ s'
    rw [hu] at hat'
    split at he
    ·rename_i et' e' xs' h4
     rw [h4] at hat'
     split at he
     ·rename_i het
      subst het
      split at he
      ·rename_i xs has
       have:=Q.ret_some he
       subst this
       obtain ⟨e1,e2⟩:=Ty.as_some has
       injection e1 with e1
       subst e1
       have e2:xs'=xs:=e2
       subst e2
       exact ⟨_,rfl,s',rfl,hat',_,h4⟩
      ·cases he
     ·cases he
    ·cases he
   ·cases he
  ·cases he
 | .own _ _,.cell _ _,x,he=>by cases he
theorem qlc (hE:qbZ E C.P) (h:qar C σ tm w own):(rs:List RM)→ {vars:List ResultVar} → {q:RMs.den rs×List Nat×List Nat} →(qmJ E rs vars).run (qA σ)=some q→∃(vs:List Value) (bs:List Nat),(vars.mapM (qt1 tm)).run C.P w= .ok vs w∧
  qa5 w (FW (sit C σ tm w own) q.2.2) (qdu rs q.1) vs bs∧(∀b∈bs,∃s∈q.2.1,b∈own s)∧(q.2.1.Nodup→bs.Nodup)∧∀s∈q.2.1,∃et e ys,(qA σ s).2= .own et e ys
 |[],[],q,he=>by
  have:=Q.ret_some he
  subst this
  exact ⟨[],[],rfl,⟨rfl,rfl⟩,fun b hb=>(by cases hb),fun _=>List.nodup_nil,fun s hs=>(by cases hs)⟩
 | .val t::rs,v::vars,q,he=>by
  simp only [qmJ] at he
  obtain ⟨x,h1,he⟩:=Q.bind_some he
  obtain ⟨q',h2,he⟩:=Q.bind_some he
  have:=Q.ret_some he
  subst this
  obtain ⟨z,hz,hr⟩:=qpV hE h (.val t) h1
  obtain ⟨vs,bs,k1,k2,k3,k4,k5⟩:=qlc hE h rs h2
  refine ⟨z::vs,bs,by simp only [List.mapM_cons,Sem.run_bind,hz,Result.andThen_ok,k1,Sem.run_pure],⟨_,_,[],bs,rfl,rfl,⟨rfl,hr.mono fun b hb _=>FW.mono (fun s hs=>List.mem_append_left _ hs) hb⟩,qa5.turn rs (.inr fun b hb _=>FW.mono (fun s hs=>List.mem_append_right _ hs) hb) k2⟩,k3,k4,k5⟩
 | .own et e::rs,v::vars,q,he=>by
  simp only [qmJ] at he
  obtain ⟨x,h1,he⟩:=Q.bind_some he
  obtain ⟨q',h2,he⟩:=Q.bind_some he
  have:=Q.ret_some he
  subst this
  obtain ⟨z,hz,s',hx,hr,ys,hys⟩:=qpV hE h (.own et e) h1
  obtain ⟨vs,bs,k1,k2,k3,k4,k5⟩:=qlc hE h rs h2
  refine ⟨z::vs,own s'++bs,by simp only [List.mapM_cons,Sem.run_bind,hz,Result.andThen_ok,k1,Sem.run_pure],⟨_,_,own s',bs,rfl,rfl,hr.keep (fun b hb hlt=>⟨.inl hb,hlt,rfl⟩) (fun _ _ _=>rfl),k2⟩,fun b hb=> ?_,fun hn=> ?_,fun s2 hs2=> ?_⟩
  ·rcases List.mem_append.1 hb with hb|hb
   ·exact ⟨s',by simp [hx],hb⟩
   ·obtain ⟨s2,g1,g2⟩:=k3 b hb
    exact ⟨s2,List.mem_append_right _ g1,g2⟩
  ·simp only [hx] at hn
   have hn':=List.nodup_cons.1 hn
   refine List.nodup_append.2 ⟨h.nodup s',k4 hn'.2,fun b hb b' hb' e=> ?_⟩
   subst e
   obtain ⟨s2,g1,g2⟩:=k3 b hb'
   have:=h.apart s' s2 b hb g2
   subst this
   exact hn'.1 g1
  ·simp only [hx] at hs2
   rcases List.mem_cons.1 hs2 with rfl|hs2
   ·exact ⟨et,e,ys,hys⟩
   ·exact k5 s2 hs2
 |[],_::_,_,he=>by cases he
 | .val _::_,[],_,he=>by cases he
 | .own _ _::_,[],_,he=>by cases he
def qcQ (tm:Nat→Value):List PM→Nat→List Value→List Nat→Prop
 |[],_,_,i=>i=[]
 | .io _::ps,k,as,i=>∃b i2,i=b::i2∧tm k=ptr b 0∧qcQ tm ps (k+1) as.tail i2
 | .ior _ _::ps,k,as,i=>∃i1 i2,i=i1++i2∧tm k=as.headD undef∧i1=(as.headD undef).ownBlock.toList∧qcQ tm ps (k+1) as.tail i2
 | .val _::ps,k,as,i=>qcQ tm ps (k+1) as.tail i
 | .own _ _::ps,k,as,i=>qcQ tm ps (k+1) as.tail i
 | .fn _ _::ps,k,as,i=>qcQ tm ps (k+1) as.tail i
 | .nil _ _::ps,k,as,i=>qcQ tm ps (k+1) as.tail i
 | .rd _::ps,k,as,i=>qcQ tm ps (k+1) as.tail i
theorem qcQ.congr {tm tm':Nat→Value} :(ps:List PM)→(k:Nat)→ {as:List Value} → {i:List Nat} →(∀s∈qeb ps k,tm' s=tm s)→qcQ tm ps k as i→qcQ tm' ps k as i
 |[],_,_,_,_,h=>h
 | .io _::ps,k,_,_,he,⟨b,i2,h1,h2,h3⟩=>⟨b,i2,h1,by rw [he k (by simp [qeb])]; exact h2,h3.congr ps (k+1) fun s hs=>he s (by simp [qeb,hs])⟩
 | .ior _ _::ps,k,_,_,he,⟨i1,i2,h1,h2,h3,h4⟩=>⟨i1,i2,h1,by rw [he k (by simp [qeb])]; exact h2,h3,h4.congr ps (k+1) fun s hs=>he s (by simp [qeb,hs])⟩
 | .val _::ps,k,_,_,he,h=>qcQ.congr ps (k+1) he h
 | .own _ _::ps,k,_,_,he,h=>qcQ.congr ps (k+1) he h
 | .fn _ _::ps,k,_,_,he,h=>qcQ.congr ps (k+1) he h
 | .nil _ _::ps,k,_,_,he,h=>qcQ.congr ps (k+1) he h
 | .rd _::ps,k,_,_,he,h=>qcQ.congr ps (k+1) he h
theorem qcQ.boxes {tm:Nat→Value} :(ps:List PM)→(k:Nat)→ {as:List Value} → {i:List Nat} →qcQ tm ps k as i→∃ib:List Nat,(qcU ps k).map tm=ib.map (fun b=>ptr b 0)
 |[],_,_,_,_=>⟨[],rfl⟩
 | .io _::ps,k,_,_,⟨b,i2,h1,h2,h3⟩=>by
  obtain ⟨ib,hib⟩:=h3.boxes ps (k+1)
  exact ⟨b::ib,by simp [qcU,h2,hib]⟩
 | .ior _ _::ps,k,_,_,⟨i1,i2,h1,h2,h3,h4⟩=>by
  obtain ⟨ib,hib⟩:=h4.boxes ps (k+1)
  exact ⟨ib,by simp [qcU,hib]⟩
 | .val _::ps,k,_,_,h=>qcQ.boxes ps (k+1) h
 | .own _ _::ps,k,_,_,h=>qcQ.boxes ps (k+1) h
 | .fn _ _::ps,k,_,_,h=>qcQ.boxes ps (k+1) h
 | .nil _ _::ps,k,_,_,h=>qcQ.boxes ps (k+1) h
 | .rd _::ps,k,_,_,h=>qcQ.boxes ps (k+1) h
theorem qdb:(ps:List PM)→(k:Nat)→∀s∈qcU ps k,s∈qeb ps k
 |[],_,_,h=>h
 | .io _::ps,k,s,h=>by
  rcases List.mem_cons.1 h with rfl|h
  ·simp [qeb]
  ·simp [qeb,qdb ps (k+1) s h]
 | .ior _ _::ps,k,s,h=>by simp [qeb,qdb ps (k+1) s h]
 | .val _::ps,k,s,h=>qdb ps (k+1) s h
 | .own _ _::ps,k,s,h=>qdb ps (k+1) s h
 | .fn _ _::ps,k,s,h=>qdb ps (k+1) s h
 | .nil _ _::ps,k,s,h=>qdb ps (k+1) s h
 | .rd _::ps,k,s,h=>qdb ps (k+1) s h
theorem qeu (h:qar C σ a.tmps w own) {F:Nat→Prop} (hF:∀b s n1 c,(qA σ s).2= .box c→own s=n1→b∈n1.tail→F b) (hF0:∀b,C.free w own b→F b):(ps:List PM)→(k:Nat)→ {z:PMs.ioDen ps} → {as:List Value} → {i:List Nat} →(qia ps k).run (qA σ)=some z→
  qcQ (fun s=>a.tmps.getD s undef) ps k as i→qdl w F ps z as i∧∀b∈i,∃s,b∈own s∧((a.tmps.getD s undef=ptr b 0∧∃c,(qA σ s).2= .box c)∨(s∈qf1 ps k∧∃et e ys,(qA σ s).2= .own et e ys))
 |[],k,z,as,i,_,hi=>by
  have hi:i=[]:=hi
  subst hi
  exact ⟨rfl,fun b hb=>by cases hb⟩
 | .val _::ps,k,z,as,i,he,hi=>qeu h hF hF0 ps (k+1) (z:=z) he hi
 | .own _ _::ps,k,z,as,i,he,hi=>qeu h hF hF0 ps (k+1) (z:=z) he hi
 | .fn _ _::ps,k,z,as,i,he,hi=>qeu h hF hF0 ps (k+1) (z:=z) he hi
 | .nil _ _::ps,k,z,as,i,he,hi=>qeu h hF hF0 ps (k+1) (z:=z) he hi
 | .rd _::ps,k,z,as,i,he,hi=>qeu h hF hF0 ps (k+1) (z:=z) he hi
 | .ior et e::ps,k,z,as,i,he,⟨i1,i2,p1,p2,p3,p4⟩=>by
  simp only [qia,Q.run_get] at he
  split at he
  case h_2=>cases he
  rename_i et' e' xs hx
  split at he
  case isFalse=>cases he
  rename_i hty
  subst hty
  split at he
  case h_2=>cases he
  rename_i x hs
  obtain ⟨r,h1,he⟩:=Q.bind_some he
  have:=Q.ret_some he
  subst this
  obtain ⟨e1,e2⟩:=Ty.as_some hs
  injection e1 with e1
  subst e1
  have e2:xs=x:=e2
  subst e2
  obtain ⟨g1,g2⟩:=qeu h hF hF0 ps (k+1) h1 p4
  have hat:=h.at_ k
  rw [hx,show a.tmps.getD k undef=as.headD undef from p2] at hat
  have hown:qah w (C.free w own) et e' xs (as.headD undef) (own k):=hat
  have hb:own k=i1:=by
   obtain ⟨cells,_,hb,_⟩:=hown
   rw [hb,p3]
  refine ⟨⟨i1,i2,p1,?_,g1⟩,fun b hbm=> ?_⟩
  ·rw [hb] at hown
   exact hown.keep (fun b hb hlt=>⟨hF0 b hb,hlt,rfl⟩) (fun _ _ _=>rfl)
  ·rw [p1] at hbm
   rcases List.mem_append.1 hbm with hbm|hbm
   ·exact ⟨k,by rw [hb]; exact hbm,.inr ⟨by simp [qf1],et,e',xs,hx⟩⟩
   ·obtain ⟨s,q1,q2⟩:=g2 b hbm
    refine ⟨s,q1,q2.imp id fun ⟨q3,q4⟩=>⟨by simp [qf1,q3],q4⟩⟩
 | .io t::ps,k,z,as,i,he,⟨b,i2,p1,p2,p3⟩=>by
  subst p1
  simp only [qia,Q.run_get] at he
  split at he
  case h_2=>cases he
  rename_i c hc
  split at he
  case h_2=>cases he
  rename_i x fl hg
  split at hg
  case isFalse=>cases hg
  rename_i hsz
  obtain ⟨r,h1,he⟩:=Q.bind_some he
  have:=Q.ret_some he
  subst this
  obtain ⟨b0,cs,bs',te,b1,b2,b3,b4⟩:=h.box hc
  have hb:b0=b:=(qha (b1.symm.trans p2)).1
  subst hb
  obtain ⟨g1,g2⟩:=qeu h hF hF0 ps (k+1) h1 p3
  obtain ⟨q1,q2,_⟩:=b3.get hg
  have hcl:=b3.length
  rw [List.drop_zero,List.take_of_length_le (by omega)] at q2
  refine ⟨⟨b0,i2,cs,te,rfl,b2,q2.keep fun b hb hlt=>⟨?_,hlt,rfl⟩,g1⟩,fun b hb=> ?_⟩
  ·rcases hb with hb|hb
   ·exact hF0 b hb
   ·exact hF b k _ c hc b4 hb
  ·rcases List.mem_cons.1 hb with rfl|hb
   ·exact ⟨k,by rw [b4]; exact List.mem_cons_self,.inl ⟨b1,c,hc⟩⟩
   ·exact g2 b hb
end
end Go.Vi
namespace Go.Vi
open Go.RowKit
theorem qqY {P:Program} {w:World} {fn:Func} {tmps:Array Value} {vs:List Value} (h:(fn.results.toList.mapM (qt1 tmps)).run P w= .ok vs w):(results fn tmps).run P w=Result.ok (qfZ vs) w:=by
 have e:results fn tmps=(do
   let vs ←fn.results.mapM (qt1 tmps)
   pure (if h:vs.size=1 then vs[0] else .tuple vs)):=rfl
 rw [e,Array.mapM_eq_mapM_toList]
 simp only [Sem.run_bind,Sem.run_map,h,Result.andThen_ok,Sem.run_pure]
 congr 1
 match vs with
 |[]=>rfl
 |[v]=>rfl
 |v::u::r=>simp [qfZ]
theorem qdY {P:Program} {w:World} {F:Nat→Prop} (tm:Nat→Value):(ps:List PM)→(k:Nat)→ {x:PMs.den ps} → {vs:List Value} → {g i:List Nat} →qaD P w F ps x vs g i→(∀j,j<ps.length→tm (k+j)=vs.getD j undef)→qcQ tm ps k vs i
 |[],k,x,vs,g,i,⟨_,_,h3⟩,_=>h3
 | .val t::ps,k,x,vs,g,i,⟨v,r,h1,h2,h3⟩,ht=>by
  subst h1
  exact qdY tm ps (k+1) h3 fun j hj=>by
   have:=ht (j+1) (by simpa using hj)
   rw [show k+1+j=k+(j+1) from by omega]
   simpa using this
 | .nil _ _::ps,k,x,vs,g,i,⟨r,h1,h3⟩,ht=>by
  subst h1
  exact qdY tm ps (k+1) h3 fun j hj=>by
   have:=ht (j+1) (by simpa using hj)
   rw [show k+1+j=k+(j+1) from by omega]
   simpa using this
 | .rd _::ps,k,x,vs,g,i,⟨_,_,r,h1,_,_,_,_,h3⟩,ht=>by
  subst h1
  exact qdY tm ps (k+1) h3 fun j hj=>by
   have:=ht (j+1) (by simpa using hj)
   rw [show k+1+j=k+(j+1) from by omega]
   simpa using this
 | .fn _ _::ps,k,x,vs,g,i,⟨v,r,h1,h2,h3⟩,ht=>by
  subst h1
  exact qdY tm ps (k+1) h3 fun j hj=>by
   have:=ht (j+1) (by simpa using hj)
   rw [show k+1+j=k+(j+1) from by omega]
   simpa using this
 | .own _ _::ps,k,x,vs,g,i,⟨v,r,g1,g2,h1,h2,h3,h4⟩,ht=>by
  subst h1
  exact qdY tm ps (k+1) h4 fun j hj=>by
   have:=ht (j+1) (by simpa using hj)
   rw [show k+1+j=k+(j+1) from by omega]
   simpa using this
 | .ior _ _::ps,k,x,vs,g,i,⟨v,r,i1,i2,h1,h2,h3,h4⟩,ht=>by
  subst h1
  have h0:tm k=v:=by simpa using ht 0 (by simp)
  refine ⟨i1,i2,h2,h0,?_,qdY tm ps (k+1) h4 fun j hj=> ?_⟩
  ·obtain ⟨cells,_,hb,_⟩:=h3
   exact hb
  ·have:=ht (j+1) (by simpa using hj)
   rw [show k+1+j=k+(j+1) from by omega]
   simpa using this
 | .io t::ps,k,x,vs,g,i,⟨b,r,i2,cs,te,h1,h2,h3,h4,h5⟩,ht=>by
  subst h1
  have h0:tm k=ptr b 0:=by simpa using ht 0 (by simp)
  refine ⟨b,i2,h2,h0,qdY tm ps (k+1) h5 fun j hj=> ?_⟩
  have:=ht (j+1) (by simpa using hj)
  rw [show k+1+j=k+(j+1) from by omega]
  simpa using this
end Go.Vi
namespace Go.Vi
open Go.RowKit
theorem qtj (vs:List Value) (n:Nat) (j:Nat):(vs.toArray++Array.replicate n undef).getD j undef=vs.getD j undef:=by
 rw [Array.getD_eq_getD_getElem?,List.getD_eq_getElem?_getD]
 by_cases h:j<vs.length
 ·rw [Array.getElem?_append_left (by simpa using h)]
  simp
 ·rw [Array.getElem?_append_right (by simpa using h),List.getElem?_eq_none (by omega),Array.getElem?_replicate]
  split <;> rfl
theorem qtE {P:Program} {E:Env} (hE:qbZ E P) {w w':World} {F:Nat→Prop} {fn:Func} {ps:List PM} {rs:List RM} {g i:List Nat} {σ:St} {a:Act} {own:Nat→List Nat} {y:RMs.den rs×PMs.ioDen ps}
  (hpre:∀b∈g++i,¬F b∧b<w.heap.size) (hn:(g++i).Nodup)
  {pn:Nat→Option Nat} {hT:qdD E.tabs w fun b=>F b∧¬b∈g++i} (h:qar { P,w0:=w,O:=fun b=>b∈g++i,G:=F,pn,T:=E.tabs,hT } σ a.tmps w' own) {as:List Value} (hpin:qcQ (fun s=>a.tmps.getD s undef) ps 0 as i) (he:qpn E fn ps rs σ=some y):
  ∃vs bs,(results fn a.tmps).run P w'=Result.ok (qfZ vs) w'∧bs.Nodup∧(∀b∈bs,(b∈g∨w.heap.size≤b)∧b<w'.heap.size)∧qa5 w' (qmj w F g i bs) (qdu rs y.1) vs bs∧qdl w' (qmj w F g i bs) ps y.2 as i∧qc7 (fun b=>b∈g++i) w w':=by
 haveI:Tabbed E { P,w0:=w,O:=fun b=>b∈g++i,G:=F,pn,T:=E.tabs,hT } :=⟨rfl⟩
 unfold qpn at he
 split at he
 case h_2=>cases he
 rename_i y1 gone ow z hr hz
 split at he
 case isFalse=>cases he
 rename_i hc
 injection he with he
 subst he
 simp only [Bool.and_eq_true] at hc
 have hgn:=qeW hc.1.1
 have hap:=qgu hc.1.2
 have hrow:=qgu hc.2
 obtain ⟨vs0,bs,k1,k2,k3,k4,k5⟩:=qlc hE h rs hr
 obtain ⟨_,hio⟩:=qeu h (F:=fun _=>True) (fun _ _ _ _ _ _ _=>trivial) (fun _ _=>trivial) ps 0 hz hpin
 have hbi:∀b∈bs,b∉i:=fun b hb hi=>by
  obtain ⟨s,hs,hbs⟩:=k3 b hb
  obtain ⟨et,e,ys,hys⟩:=k5 s hs
  obtain ⟨s',h1,h2⟩:=hio b hi
  have:=h.apart s s' b hbs h1
  subst this
  rcases h2 with ⟨_,c,h3⟩|⟨h3,_⟩
  ·rw [h3] at hys
   cases hys
  ·exact hrow s (List.mem_append_left _ hs) h3
 have hfree:∀b,Ctx.free { P,w0:=w,O:=fun b=>b∈g++i,G:=F,pn,T:=E.tabs,hT } w' own b→qmj w F g i bs b:=fun b hb=>by
  have hni:b∉i:=fun hi=>by
   obtain ⟨s',h1,_⟩:=hio b hi
   exact hb.2.2 s' h1
  refine ⟨?_,fun hbb=> ?_,hni⟩
  ·rcases hb.1 with hb|hb|hb
   ·exact .inl hb
   ·rcases List.mem_append.1 hb with hb|hb
    ·exact .inr (.inl hb)
    ·exact absurd hb hni
   ·exact .inr (.inr hb)
  ·obtain ⟨s,_,hbs⟩:=k3 b hbb
   exact hb.2.2 s hbs
 have hmine:∀s b,b∈own s→b∉i→F b∨b∈g∨w.heap.size≤b:=fun s b hb hni=>by
  rcases (h.mine s b hb).1 with hb|hb
  ·rcases List.mem_append.1 hb with hb|hb
   ·exact .inr (.inl hb)
   ·exact absurd hb hni
  ·exact .inr (.inr hb)
 refine ⟨_,bs,qqY k1,k4 hgn,fun b hb=> ?_,qa5.turn rs (.inr fun b hb _=> ?_) k2,(qeu h (fun b s n1 c hc hn1 hb=> ?_) hfree ps 0 hz hpin).1,h.kept⟩
 ·obtain ⟨s,_,hbs⟩:=k3 b hb
  obtain ⟨h1,h2⟩:=h.mine s b hbs
  refine ⟨?_,h2⟩
  rcases h1 with h1|h1
  ·rcases List.mem_append.1 h1 with h1|h1
   ·exact .inl h1
   ·exact absurd h1 (hbi b hb)
  ·exact .inr h1
 ·rcases hb with hb|⟨s,hs,hbs,hne⟩
  ·exact hfree b hb
  ·have hni:b∉i:=fun hi=>by
    obtain ⟨s',h1,h2⟩:=hio b hi
    have:=h.apart s s' b hbs h1
    subst this
    rcases h2 with ⟨h2,_⟩|⟨h2,_⟩
    ·exact hne h2
    ·exact hrow s (List.mem_append_right _ hs) h2
   refine ⟨hmine s b hbs hni,fun hbb=> ?_,hni⟩
   obtain ⟨s',hs',hbs'⟩:=k3 b hbb
   have:=h.apart s s' b hbs hbs'
   subst this
   exact hap s hs hs'
 ·obtain ⟨b0,cs,bs',te,b1,b2,b3,b4⟩:=h.box hc
  rw [hn1] at b4
  subst b4
  have hbs:b∈own s:=by rw [hn1]; exact List.mem_cons_of_mem _ hb
  have hni:b∉i:=fun hi=>by
   obtain ⟨s',h1,h2⟩:=hio b hi
   have:=h.apart s s' b hbs h1
   subst this
   rcases h2 with ⟨h2,_⟩|⟨_,et,e,ys,h2⟩
   ·rw [b1] at h2
    have:=(qha h2).1
    subst this
    have hnd:=h.nodup s
    rw [hn1] at hnd
    exact (List.nodup_cons.1 hnd).1 hb
   ·rw [hc] at h2
    cases h2
  refine ⟨hmine s b hbs hni,fun hbb=> ?_,hni⟩
  obtain ⟨s',hs',hbs'⟩:=k3 b hbb
  have:=h.apart s s' b hbs hbs'
  subst this
  obtain ⟨et,e,ys,hys⟩:=k5 s hs'
  rw [hc] at hys
  cases hys
def qoC:List Nat→List Nat→Nat→Option Nat
 |k::l,b::i,j=>if k=j then some b else qoC l i j
 |_,_,_=>none
theorem qrf {tm:Nat→Value} :(l i:List Nat)→l.map tm=i.map (fun b=>ptr b 0)→(∀k b,qoC l i k=some b→tm k=ptr b 0∧k∈l)∧∀k∈l,∃b,qoC l i k=some b
 |[],_,_=>⟨fun k b h=>(by cases h),fun k h=>(by cases h)⟩
 |k::l,[],h=>by simp at h
 |k::l,b::i,h=>by
  simp only [List.map_cons,List.cons.injEq] at h
  obtain ⟨h1,h2⟩:=qrf l i h.2
  refine ⟨fun j c hj=> ?_,fun j hj=> ?_⟩
  ·simp only [qoC] at hj
   split at hj
   ·rename_i e
    injection hj with hj
    subst e; subst hj
    exact ⟨h.1,List.mem_cons_self⟩
   ·obtain ⟨q1,q2⟩:=h1 j c hj
    exact ⟨q1,List.mem_cons_of_mem _ q2⟩
  ·simp only [qoC]
   by_cases e:k=j
   ·exact ⟨b,by rw [if_pos e]⟩
   ·rw [if_neg e]
    rcases List.mem_cons.1 hj with hj|hj
    ·exact absurd hj.symm e
    ·exact h2 j hj
theorem qbZ.pinned {E:Env} {P:Program} (h:qbZ E P) (l rf:List Nat):qbZ { E with pins:=l,rf:=rf } P:=
 ⟨h.ty,fun t e he=>⟨(h.elem t e he).under,(h.elem t e he).info,(h.elem t e he).notInt⟩,h.dflt,h.size,h.arr,h.struct,h.str,h.int,h.bool,h.err,h.opt,h.map,h.off,h.zero,h.eq,h.mixed⟩
theorem qgt {P:Program} {f:Nat} {fn:Func} {c:Code} (hf:P.funcs[f]? =some fn) (hb:fn.body=some c) (hname:(fn.name == "runtime.NumGoroutine")=false) (as:Array Value) (w:World):(callFunc f as).run P w= .ok (.enter f as) w:=by
 have hn:¬fn.name= "runtime.NumGoroutine" :=by simpa using hname
 simp [callFunc,hf,hn,hb]
theorem qwF {P:Program} {E:Env} (hE:qbZ E P) (hF:qfu E P) {N:Nat} {anns:qwr} {f:Nat} {fn:Func} {c:Code} (hf:P.funcs[f]? =some fn) (hb:fn.body=some c) (hname:(fn.name == "runtime.NumGoroutine")=false) (D:qi)
  (hrun:∀x y,D.sem x=some y→runF E N anns fn D.ps D.rs x=some y):D.okT P E.tabs f:=by
 refine ⟨fun as w=>qgt hf hb hname as w,fun w F x y as g i hT hp hpre hn hy=> ?_⟩
 have hT':qdD E.tabs w fun b=>F b∧¬b∈g++i:=hT.keep fun b hb hlt=>⟨⟨hb,fun hm=>(hpre b hm).1 hb⟩,hlt,rfl⟩
 have he:=hrun x y hy
 unfold runF at he
 rw [hb] at he
 simp only at he
 split at he
 case isFalse=>cases he
 rename_i hcond
 simp only [Bool.and_eq_true] at hcond
 obtain ⟨c1,c2⟩:=hcond
 have hlen:D.ps.length≤fn.ntmps:=of_decide_eq_true c2
 have hpin0:=qdY (fun s=>(as.toArray++Array.replicate (fn.ntmps - as.toArray.size) undef).getD s undef) D.ps 0 hp fun j _=>by
  rw [Nat.zero_add]; exact qtj as _ j
 obtain ⟨ib,hib⟩:=hpin0.boxes D.ps 0
 obtain ⟨p1,p2⟩:=qrf (qcU D.ps 0) ib hib
 obtain ⟨own,hst⟩:=qvw (pn:=qoC (qcU D.ps 0) ib) (fn:=fn) hT' hlen hp hpre hn
 have fin:∀(σ':St) (a':Act) (w':World) (own':Nat→List Nat),qei (qeb D.ps 0) { tmps:=as.toArray++Array.replicate (fn.ntmps - as.toArray.size) undef,defers:=[] } a'→qar { P,w0:=w,O:=fun b=>b∈g++i,G:=F,pn:=qoC (qcU D.ps 0) ib,T:=E.tabs,hT:=hT' } σ' a'.tmps w' own'→qpn E fn D.ps D.rs σ'=some y→
   a'.defers=[]∧∃v,(results fn a'.tmps).run P w'= .ok v w'∧∃v',Ending.returned v= .returned v'∧D.Post w F as g i y v' w':=by
  intro σ' a' w' own' hk hs hfin
  have hpin:qcQ (fun s=>a'.tmps.getD s undef) D.ps 0 as i:=hpin0.congr D.ps 0 fun s hs=>hk.2 s hs
  obtain ⟨vs,bs,h1,h2,h3,h4,h5,h6⟩:=qtE hE hpre hn hs hpin hfin
  exact ⟨hk.1,qfZ vs,h1,qfZ vs,rfl,vs,bs,rfl,h2,h3,h4,h5,h6⟩
 haveI:Tabbed { E with pins:=qcU D.ps 0,rf:=qgw anns.frz (some 1000000007) } { P,w0:=w,O:=fun b=>b∈g++i,G:=F,pn:=qoC (qcU D.ps 0) ib,T:=E.tabs,hT:=hT' } :=⟨rfl⟩
 refine calls_of_wp hf hb (qv1 (E:= { E with pins:=qcU D.ps 0,rf:=qgw anns.frz (some 1000000007) }) (C:= { P,w0:=w,O:=fun b=>b∈g++i,G:=F,pn:=qoC (qcU D.ps 0) ib,T:=E.tabs,hT:=hT' }) (pin:=qeb D.ps 0) (hE.pinned _ _) ⟨fun f C h=>hF f C h,fun k hk=>p2 k hk,fun k b h=>qdb D.ps 0 k (p1 k b h).2⟩ c c1 he (fun k b h=>(p1 k b h).1) hst ⟨fun σ' a' w' own' hfr hk hs hfin=>fin σ' a' w' own' hk hs hfin,fun i σ' a' w' own' hfr hk hs hfin=>(by cases hfin),fun σ' a' w' own' hfr hk hs hfin=>fin σ' a' w' own' hk hs hfin⟩)
theorem qmb {P:Program} {T:qly} {f:Nat} {fn:Func} (hf:P.funcs[f]? =some fn) (hb:fn.body.isSome=true) (hname:(fn.name == "runtime.NumGoroutine")=false) {ps:List PM} {rs:List RM} :qi.okT P T f ⟨ps,rs,fun _=>none⟩:=by
 obtain ⟨c,hc⟩:=Option.isSome_iff_exists.1 hb
 exact ⟨fun as w=>qgt hf hc hname as w,fun w F x y as g i _ _ _ _ hy=>by cases hy⟩
theorem keeps {P:Program} {E:Env} (hE:qbZ E P) (hF:qfu E P) {N:Nat} {anns:qwr} {f:Nat} {fn:Func} (hf:P.funcs[f]? =some fn) (hb:fn.body.isSome=true) (hname:(fn.name == "runtime.NumGoroutine")=false) {ps:List PM} {rs:List RM} {sem:PMs.den ps→Option (RMs.den rs×PMs.ioDen ps)}
  (hrun:∀x,runF E N anns fn ps rs x=sem x):qi.okT P E.tabs f ⟨ps,rs,sem⟩:=by
 obtain ⟨c,hc⟩:=Option.isSome_iff_exists.1 hb
 exact qwF hE hF (N:=N) (anns:=anns) hf hc hname ⟨ps,rs,sem⟩ fun x y h=>(hrun x).trans h
end Go.Vi
namespace Go.Vi
noncomputable section
structure TI where
 t:Nat
 ty:Ty
 et:Nat
 fs:List (Nat×Nat)
 z:qeI
 bytes:Nat
 eq:Bool
def qkA:List TI→Nat→Option TI
 |[],_=>none
 |x::r,t=>match decEq x.t t with
  |isTrue _=>some x
  |isFalse _=>qkA r t
def qeI.zero:qeI→BC
 | .val t=> .val t t.dflt
 | .own et e=> .own et e []
 | .pair a b=> .pair a.zero b.zero
 | .hole n=> .hole n
def qvn {α:Type} :List (Nat×α)→Nat→Option α
 |[],_=>none
 |(a,x)::r,k=>match decEq a k with
  |isTrue _=>some x
  |isFalse _=>qvn r k
def Env.tab (T:List TI) (fns:List (Nat×qi)):Env where
 ty t:=(qkA T t).map (·.ty)
 etid t:=((qkA T t).map (·.et)).getD 0
 off t f:=(qkA T t).bind fun x=>(x.fs[f]?).map (·.1)
 fty t f:=(((qkA T t).bind fun x=>(x.fs[f]?).map (·.2))).getD 0
 zero t:=(qkA T t).map (·.z.zero)
 bytes t:=((qkA T t).map (·.bytes)).getD 0
 eqok t:=((qkA T t).map (·.eq)).getD false
 fn:=qvn fns
 pins:=[]
 ownz:=false
 tabs:=fun _=>none
 rf:=[]
def Env.tabG (G:qly) (T:List TI) (fns:List (Nat×qi)):Env:= { Env.tab T fns with tabs:=G }
def Env.tabGO (G:qly) (T:List TI) (fns:List (Nat×qi)):Env:= { Env.tabG G T fns with ownz:=true }
def Env.tabO (T:List TI) (fns:List (Nat×qi)):Env:= { Env.tab T fns with ownz:=true }
end
end Go.Vi
namespace Go.Vi
def Ty.zeroOk:Ty→List Value→Bool
 | .int k,cs=>match cs with
  |[.int k' n]=>decide (k'=k)&&decide (n=0)
  |_=>false
 | .bool,cs=>match cs with
  |[.bool b]=> !b
  |_=>false
 | .str,cs=>match cs with
  |[.string s]=>s.data.toList.isEmpty
  |_=>false
 | .unit,cs=>cs.isEmpty
 | .err,cs=>match cs with
  |[.nilIface]=>true
  |_=>false
 | .opt _,cs=>match cs with
  |[.pointer none]=>true
  |_=>false
 | .map _ _,_=>false
 | .pair a b,cs=>a.zeroOk (cs.take a.size)&&b.zeroOk (cs.drop a.size)
 | .slice _,cs=>match cs with
  |[.slice none 0 0]=>true
  |_=>false
 | .arr n e,cs=>decide (cs.length=n * e.size)&&(List.range n).all fun i=>e.zeroOk ((cs.drop (i * e.size)).take e.size)
def qeI.zeroOk:qeI→List Value→Bool
 | .val t,cs=>t.zeroOk cs
 | .own _ _,cs=>match cs with
  |[.slice none 0 0]=>true
  |_=>false
 | .pair a b,cs=>a.zeroOk (cs.take a.zero.size)&&b.zeroOk (cs.drop a.zero.size)
 | .hole n,cs=>decide (cs.length=n)
def qtv (P:Program):List Field→Ty→Nat→Bool
 |[],.unit,_=>true
 |f::fs,.pair a b,off=>decide (f.offset=off)&&(match P.info? f.type with
  |some i=>decide (i.size=a.size)
  |none=>false)&&qtv P fs b (off+a.size)
 |_,_,_=>false
def fsOk (P:Program):List Field→List (Nat×Nat)→Bool
 |_,[]=>true
 |f::fs,(off,ft)::r=>decide (f.offset=off)&&decide (f.type=ft)&&(match P.info? ft with
  |some i=>decide (i.size≠0)
  |none=>false)&&fsOk P fs r
 |[],_::_=>false
def qrF (P:Program) (T:List TI) (et:Nat) (e:Ty):Bool:=
 match P.info? et with
 |some i=>decide (i.size=e.size)&&(match i.zero with
  |some z=>e.zeroOk z.cells.toList&&decide (z.cells.size=e.size)&&(match z with
   | .agg _=>e.agg
   |_=>true)
  |none=>false)&&decide (i.bytes=((qkA T et).map (·.bytes)).getD 0)
 |none=>false
def qfy (P:Program) (T:List TI) (x:TI) (d:TypeDesc):Ty→Bool
 | .int k=>match d with
  | .int k'=>decide (k'=k)
  |_=>false
 | .bool=>match d with
  | .bool=>true
  |_=>false
 | .str=>match d with
  | .string=>true
  |_=>false
 | .slice e=>match d with
  | .slice et=>decide (et=x.et)&&qrF P T et e
  |_=>false
 | .arr n e=>match d with
  | .array m et=>decide (m=n)&&decide (et=x.et)&&(match P.info? et with
   |some i=>decide (i.size=e.size)
   |none=>false)
  |_=>false
 | .err=>match d with
  | .interface _=>true
  |_=>false
 | .opt _=>match d with
  | .pointer _=>true
  |_=>false
 | .map k v=>match d with
  | .map kn vn=>decide (vn=x.et)&&(match P.underlying kn with
   |some kd=>qla k kd
   |none=>false)&&(match P.info? vn with
   |some i=>(match i.zero with
    |some z=>v.zeroOk z.cells.toList&&(match z with
     | .agg _=>v.agg
     |_=> !v.agg)
    |none=>false)
   |none=>false)
  |_=>false
 | .unit=>match d with
  | .struct fs=>qtv P fs.toList .unit 0&&fsOk P fs.toList x.fs
  |_=>false
 | .pair a b=>match d with
  | .struct fs=>qtv P fs.toList (.pair a b) 0&&fsOk P fs.toList x.fs
  |_=>false
def tiOk (P:Program) (T:List TI) (x:TI):Bool:=
 match P.info? x.t,P.underlying x.t with
 |some i,some d=>decide (i.size=x.ty.size)&&(match i.zero with
  |some z=>(if x.ty.struct then x.ty.zeroOk z.cells.toList else true)&&x.z.zeroOk z.cells.toList
  |none=>false)&&qfy P T x d x.ty&&(match d with
  | .struct _=>true
  |_=>x.fs.isEmpty)&&(!x.eq||qws P x.ty x.t)
 |_,_=>false
def qsn (P:Program) (T:List TI):Bool:=P.follows .mixedOrders&&T.all (tiOk P T)
theorem qnT: {T:List TI} → {t:Nat} → {x:TI} →qkA T t=some x→x∈T∧x.t=t
 |y::r,t,x,h=>by
  simp only [qkA] at h
  split at h
  ·injection h with h
   subst h
   exact ⟨List.mem_cons_self,by assumption⟩
  ·obtain ⟨h1,h2⟩:=qnT h
   exact ⟨List.mem_cons_of_mem _ h1,h2⟩
theorem Ty.zeroOk_rep {w:World} {F:Nat→Prop} :(t:Ty)→ {cs:List Value} →t.zeroOk cs=true→Rep w F t t.dflt cs
 | .int k,cs,h=>by
  simp only [Ty.zeroOk] at h
  split at h
  ·simp only [Bool.and_eq_true,decide_eq_true_eq] at h
   obtain ⟨rfl,rfl⟩:=h
   refine ⟨rfl,?_⟩
   rename_i k
   cases k <;> exact ⟨by decide,by decide⟩
  ·cases h
 | .bool,cs,h=>by
  simp only [Ty.zeroOk] at h
  split at h
  ·simp at h; subst h; rfl
  ·cases h
 | .err,cs,h=>by
  simp only [Ty.zeroOk] at h
  split at h
  ·exact ⟨_,rfl,.inl ⟨rfl,rfl⟩⟩
  ·cases h
 | .opt _,cs,h=>by
  simp only [Ty.zeroOk] at h
  split at h
  ·exact ⟨_,rfl,.inl ⟨rfl,rfl⟩⟩
  ·cases h
 | .map _ _,cs,h=>by cases h
 | .str,cs,h=>by
  simp only [Ty.zeroOk] at h
  split at h
  ·rename_i s
   refine ⟨?_,by simp [Ty.dflt]⟩
   have h1:s.data.toList=[]:=by simpa using h
   have h2:s.data= #[]:=by
    apply Array.toList_inj.1
    rw [h1]
   cases s
   simp only at h2
   subst h2
   rfl
  ·cases h
 | .unit,cs,h=>by
  have:cs=[]:=by simpa [Ty.zeroOk] using h
  exact this
 | .pair a b,cs,h=>by
  simp only [Ty.zeroOk,Bool.and_eq_true] at h
  exact ⟨_,_,(List.take_append_drop a.size cs).symm,a.zeroOk_rep h.1,b.zeroOk_rep h.2⟩
 | .slice e,cs,h=>by
  simp only [Ty.zeroOk] at h
  split at h
  ·exact ⟨_,rfl,.inl ⟨rfl,rfl⟩⟩
  ·cases h
 | .arr n e,cs,h=>by
  simp only [Ty.zeroOk,Bool.and_eq_true,decide_eq_true_eq,List.all_eq_true,List.mem_range] at h
  obtain ⟨h1,h2⟩:=h
  refine ⟨by simp [Ty.dflt],(List.range n).map (fun i=>(cs.drop (i * e.size)).take e.size),by simp,?_,fun i x c hi hc=> ?_⟩
  ·clear h2
   induction n generalizing cs with
   |zero=>simp at h1; subst h1; rfl
   |succ n ih=>
    have:=ih (cs:=cs.drop e.size) (by rw [List.length_drop,h1,Nat.add_mul]; omega)
    rw [List.range_succ_eq_map,List.map_cons,List.flatten_cons,List.map_map]
    rw [Nat.zero_mul,List.drop_zero]
    have e2:((fun i=>List.take e.size (List.drop (i * e.size) cs)) ∘ Nat.succ)=fun i=>List.take e.size (List.drop (i * e.size) (cs.drop e.size)):=by
     funext i
     simp only [Function.comp,List.drop_drop]
     rw [Nat.succ_mul,Nat.add_comm]
    rw [e2,←this,List.take_append_drop]
  ·have hx:x=e.dflt:=by
    simp only [Ty.dflt] at hi
    rw [List.getElem?_replicate] at hi
    split at hi
    ·injection hi with hi; exact hi.symm
    ·cases hi
   rw [List.getElem?_map] at hc
   by_cases hin:i<n
   ·rw [List.getElem?_range hin] at hc
    simp only [Option.map_some,Option.some.injEq] at hc
    rw [hx,←hc]
    exact e.zeroOk_rep (h2 i hin)
   ·rw [List.getElem?_eq_none (by simpa using hin)] at hc
    cases hc
theorem qeI.zeroOk_rep {w:World} {F:Nat→Prop} :(b:qeI)→ {cs:List Value} →b.zeroOk cs=true→qbr w F b.zero cs []
 | .val t,cs,h=>⟨rfl,t.zeroOk_rep h⟩
 | .own et e,cs,h=>by
  simp only [qeI.zeroOk] at h
  split at h
  ·exact ⟨_,rfl,[],World.ownsRow_nil _ _ _ _,rfl,fun i x hi=>by simp at hi⟩
  ·cases h
 | .pair a b,cs,h=>by
  simp only [qeI.zeroOk,Bool.and_eq_true] at h
  exact ⟨_,_,[],[],(List.take_append_drop a.zero.size cs).symm,rfl,a.zeroOk_rep h.1,b.zeroOk_rep h.2⟩
 | .hole n,cs,h=>⟨rfl,by simpa [qeI.zeroOk] using h⟩
theorem qfU {P:Program} {w:World} {t:Nat} {i:TypeInfo} (h:P.info? t=some i):(sizeOf t).run P w= .ok i.size w:=by
 simp [sizeOf,typeInfo,h]
theorem qpc {P:Program} : {fs:List Field} → {T:Ty} → {off:Nat} →qtv P fs T off=true→Lay P fs T off
 |[],.unit,_,_=>trivial
 |f::fs,.pair a b,off,h=>by
  simp only [qtv,Bool.and_eq_true,decide_eq_true_eq] at h
  obtain ⟨⟨h1,h2⟩,h3⟩:=h
  split at h2
  ·rename_i i hi
   simp only [decide_eq_true_eq] at h2
   exact ⟨h1,fun w=>by rw [qfU hi,h2],qpc h3⟩
  ·cases h2
theorem qts {P:Program} : {fs:List Field} → {l:List (Nat×Nat)} → {f:Nat} → {q:Nat×Nat} →fsOk P fs l=true→l[f]? =some q→∃fl,fs[f]? =some fl∧fl.offset=q.1∧fl.type=q.2∧∃i,P.info? fl.type=some i∧i.size≠0
 |fl::fs,(off,ft)::r,f,q,h,hq=>by
  simp only [fsOk,Bool.and_eq_true,decide_eq_true_eq] at h
  obtain ⟨⟨⟨h1,h2⟩,h3⟩,h4⟩:=h
  cases f with
  |zero=>
   simp at hq
   subst hq
   refine ⟨fl,rfl,h1,h2,?_⟩
   subst h2
   split at h3
   ·rename_i i hi
    exact ⟨i,hi,of_decide_eq_true h3⟩
   ·cases h3
  |succ f=>
   simp only [List.getElem?_cons_succ] at hq⊢
   exact qts h4 hq
 |_,[],f,q,_,hq=>by simp at hq
 |[],_::_,_,_,h,_=>by cases h
theorem qnm {P:Program} {T:List TI} (h:qsn P T=true) (fns:List (Nat×qi)):qbZ (Env.tab T fns) P:=by
 simp only [qsn,Bool.and_eq_true] at h
 have one:∀ {t:Nat} {x:TI},qkA T t=some x→x.t=t∧∃i d z,P.info? t=some i∧P.underlying t=some d∧i.zero=some z∧i.size=x.ty.size∧(x.ty.struct=true→x.ty.zeroOk z.cells.toList=true)∧x.z.zeroOk z.cells.toList=true∧qfy P T x d x.ty=true∧((∃fs,d= .struct fs)∨x.fs=[])∧(x.eq=true→EqB P t x.ty):=by
  intro t x hx
  obtain ⟨h1,h2⟩:=qnT hx
  have:=List.all_eq_true.1 h.2 x h1
  unfold tiOk at this
  split at this
  ·rename_i i d hi hd
   simp only [Bool.and_eq_true,decide_eq_true_eq] at this
   obtain ⟨⟨⟨⟨g1,g2⟩,g3⟩,g4⟩,g5⟩:=this
   split at g2
   ·rename_i z hz
    simp only [Bool.and_eq_true] at g2
    refine ⟨h2,i,d,z,h2 ▸ hi,h2 ▸ hd,hz,g1,fun hs=> ?_,g2.2,g3,?_⟩
    ·have:=g2.1
     rw [if_pos hs] at this
     exact this
    ·refine ⟨?_,fun he=> ?_⟩
     ·split at g4
      ·exact .inl ⟨_,rfl⟩
      ·exact .inr (by simpa using g4)
     ·rw [he] at g5
      exact h2 ▸ quH g5
   ·cases g2
  ·cases this
 have ent:∀ {t:Nat} {u:Ty},(Env.tab T fns).ty t=some u→∃x,qkA T t=some x∧x.ty=u:=by
  intro t u hu
  simp only [Env.tab,Option.map_eq_some_iff] at hu
  exact hu
 have etid:∀ {t:Nat} {x:TI},qkA T t=some x→(Env.tab T fns).etid t=x.et:=by
  intro t x hx
  simp [Env.tab,hx]
 refine ⟨?_,?_,?_,?_,?_,?_,?_,?_,?_,?_,?_,?_,?_,?_,?_,h.1⟩
 ·intro t u hu
  obtain ⟨x,hx,rfl⟩:=ent hu
  obtain ⟨_,i,d,z,h1,h2,h3,h4,h5,h6,h7,h8,h9⟩:=one hx
  refine ⟨⟨i,h1,h4⟩,d,h2,?_⟩
  cases hty:x.ty <;> rw [hty] at h7 <;> simp only [qfy] at h7 <;> split at h7 <;> first|rfl|cases h7
 ·intro t e hu
  obtain ⟨x,hx,hty⟩:=ent hu
  obtain ⟨_,i,d,z,h1,h2,h3,h4,h5,h6,h7,h8,h9⟩:=one hx
  rw [hty] at h7
  simp only [qfy] at h7
  split at h7
  ·rename_i et
   simp only [Bool.and_eq_true,decide_eq_true_eq] at h7
   obtain ⟨rfl,h7⟩:=h7
   unfold qrF at h7
   split at h7
   ·rename_i ie hie
    simp only [Bool.and_eq_true,decide_eq_true_eq] at h7
    obtain ⟨⟨k1,k2⟩,k3⟩:=h7
    split at k2
    ·rename_i ze hze
     simp only [Bool.and_eq_true,decide_eq_true_eq] at k2
     refine ⟨by rw [etid hx]; exact h2,⟨ie,ze,by rw [etid hx]; exact hie,k1,hze,k2.1.2,?_⟩,fun k hk=>by rw [h2] at hk; cases hk⟩
     rw [etid hx]
     exact k3
    ·cases k2
   ·cases h7
  ·cases h7
 ·intro t e hu
  obtain ⟨x,hx,hty⟩:=ent hu
  obtain ⟨_,i,d,z,h1,h2,h3,h4,h5,h6,h7,h8,h9⟩:=one hx
  rw [hty] at h7
  simp only [qfy] at h7
  split at h7
  ·rename_i et
   simp only [Bool.and_eq_true,decide_eq_true_eq] at h7
   obtain ⟨rfl,h7⟩:=h7
   unfold qrF at h7
   split at h7
   ·rename_i ie hie
    simp only [Bool.and_eq_true,decide_eq_true_eq] at h7
    obtain ⟨⟨k1,k2⟩,k3⟩:=h7
    split at k2
    ·rename_i ze hze
     simp only [Bool.and_eq_true,decide_eq_true_eq] at k2
     refine ⟨ie,ze,by rw [etid hx]; exact hie,hze,fun ha cs hcs=> ?_,fun w F=>e.zeroOk_rep k2.1.1⟩
     have:=k2.2
     rw [hcs] at this
     simp only at this
     rw [ha] at this
     cases this
    ·cases k2
   ·cases h7
  ·cases h7
 ·intro t e hu
  rcases hu with hu|⟨n,hu⟩
  ·obtain ⟨x,hx,hty⟩:=ent hu
   obtain ⟨_,i,d,z,h1,h2,h3,h4,h5,h6,h7,h8,h9⟩:=one hx
   rw [hty] at h7
   simp only [qfy] at h7
   split at h7
   ·rename_i et
    simp only [Bool.and_eq_true,decide_eq_true_eq] at h7
    obtain ⟨rfl,h7⟩:=h7
    unfold qrF at h7
    split at h7
    ·rename_i ie hie
     simp only [Bool.and_eq_true,decide_eq_true_eq] at h7
     funext w
     rw [etid hx,qfU hie,h7.1.1]
    ·cases h7
   ·cases h7
  ·obtain ⟨x,hx,hty⟩:=ent hu
   obtain ⟨_,i,d,z,h1,h2,h3,h4,h5,h6,h7,h8,h9⟩:=one hx
   rw [hty] at h7
   simp only [qfy] at h7
   split at h7
   ·rename_i m et
    simp only [Bool.and_eq_true,decide_eq_true_eq] at h7
    obtain ⟨⟨rfl,rfl⟩,h7⟩:=h7
    split at h7
    ·rename_i ie hie
     simp only [decide_eq_true_eq] at h7
     funext w
     rw [etid hx,qfU hie,h7]
    ·cases h7
   ·cases h7
 ·intro t n e hu
  obtain ⟨x,hx,hty⟩:=ent hu
  obtain ⟨_,i,d,z,h1,h2,h3,h4,h5,h6,h7,h8,h9⟩:=one hx
  rw [hty] at h7
  simp only [qfy] at h7
  split at h7
  ·rename_i m et
   simp only [Bool.and_eq_true,decide_eq_true_eq] at h7
   obtain ⟨⟨rfl,rfl⟩,h7⟩:=h7
   rw [etid hx]
   exact h2
  ·cases h7
 ·intro t u hu hs
  obtain ⟨x,hx,hty⟩:=ent hu
  obtain ⟨_,i,d,z,h1,h2,h3,h4,h5,h6,h7,h8,h9⟩:=one hx
  rw [hty] at h7 h5
  have h5:=h5 hs
  cases u <;> simp only [Ty.struct] at hs <;> first|cases hs|skip
  all_goals
   simp only [qfy] at h7
   split at h7
   ·rename_i fs
    simp only [Bool.and_eq_true] at h7
    exact ⟨fs,z,i,h2,h1,h3,fun w F=>Ty.zeroOk_rep _ h5,qpc h7.1⟩
   ·cases h7
 ·intro t hu
  obtain ⟨x,hx,hty⟩:=ent hu
  obtain ⟨_,i,d,z,h1,h2,h3,h4,h5,h6,h7,h8,h9⟩:=one hx
  rw [hty] at h7
  simp only [qfy] at h7
  split at h7
  ·exact h2
  ·cases h7
 ·intro t k hu
  obtain ⟨x,hx,hty⟩:=ent hu
  obtain ⟨_,i,d,z,h1,h2,h3,h4,h5,h6,h7,h8,h9⟩:=one hx
  rw [hty] at h7
  simp only [qfy] at h7
  split at h7
  ·simp only [decide_eq_true_eq] at h7
   subst h7
   exact h2
  ·cases h7
 ·intro t hu
  obtain ⟨x,hx,hty⟩:=ent hu
  obtain ⟨_,i,d,z,h1,h2,h3,h4,h5,h6,h7,h8,h9⟩:=one hx
  rw [hty] at h7
  simp only [qfy] at h7
  split at h7
  ·exact h2
  ·cases h7
 ·intro t hu
  obtain ⟨x,hx,hty⟩:=ent hu
  obtain ⟨_,i,d,z,h1,h2,h3,h4,h5,h6,h7,h8,h9⟩:=one hx
  rw [hty] at h7
  simp only [qfy] at h7
  split at h7
  ·exact ⟨_,h2⟩
  ·cases h7
 ·intro t e hu
  obtain ⟨x,hx,hty⟩:=ent hu
  obtain ⟨_,i,d,z,h1,h2,h3,h4,h5,h6,h7,h8,h9⟩:=one hx
  rw [hty] at h7
  simp only [qfy] at h7
  split at h7
  ·exact ⟨_,h2⟩
  ·cases h7
 ·intro t k v hu
  obtain ⟨x,hx,hty⟩:=ent hu
  obtain ⟨_,i,d,z,h1,h2,h3,h4,h5,h6,h7,h8,h9⟩:=one hx
  rw [hty] at h7
  simp only [qfy] at h7
  split at h7
  ·rename_i kn vn
   simp only [Bool.and_eq_true] at h7
   obtain ⟨⟨k1,k2⟩,k3⟩:=h7
   split at k2
   case h_2=>cases k2
   rename_i kd hkd
   split at k3
   case h_2=>cases k3
   rename_i iv hiv
   split at k3
   case h_2=>cases k3
   rename_i zv hzv
   simp only [Bool.and_eq_true] at k3
   refine ⟨kn,vn,kd,iv,zv,h2,hkd,k2,hiv,hzv,fun w F=>⟨v.zeroOk_rep k3.1,fun ha=> ?_,fun ha cs he=> ?_⟩⟩
   ·have k4:=k3.2
    split at k4
    ·exact ⟨_,rfl⟩
    ·rw [ha] at k4
     cases k4
   ·have k4:=k3.2
    rw [he] at k4
    simp only at k4
    rw [ha] at k4
    cases k4
  ·cases h7
 ·intro t f n ho
  simp only [Env.tab,Option.bind_eq_some_iff,Option.map_eq_some_iff] at ho
  obtain ⟨x,hx,q,hq,rfl⟩:=ho
  obtain ⟨_,i,d,z,h1,h2,h3,h4,h5,h6,h7,h8,h9⟩:=one hx
  rcases h8 with ⟨fs,rfl⟩|h8
  ·have hfs:fsOk P fs.toList x.fs=true:=by
    cases hty:x.ty <;> rw [hty] at h7 <;> simp only [qfy] at h7 <;> first|(simp only [Bool.and_eq_true] at h7; exact h7.2)|cases h7
   obtain ⟨fl,g1,g2,g3,g4⟩:=qts hfs hq
   refine ⟨fs,fl,h2,by simpa using g1,g2,?_,g4⟩
   simp [Env.tab,hx,hq,g3]
  ·rw [h8] at hq
   simp at hq
 ·intro t c hc
  simp only [Env.tab,Option.map_eq_some_iff] at hc
  obtain ⟨x,hx,rfl⟩:=hc
  obtain ⟨_,i,d,z,h1,h2,h3,h4,h5,h6,h7,h8,h9⟩:=one hx
  exact ⟨i,z,h1,h3,fun w F=>x.z.zeroOk_rep h6⟩
 ·intro t u he hu
  obtain ⟨x,hx,rfl⟩:=ent hu
  obtain ⟨_,i,d,z,h1,h2,h3,h4,h5,h6,h7,h8,h9⟩:=one hx
  exact h9 (by simpa [Env.tab,hx] using he)
theorem fnsOk_nil {P:Program} {T:List TI} :qfu (Env.tab T []) P:=fun f C h=>by cases h
theorem fnsOk_cons {P:Program} {T:List TI} {fns:List (Nat×qi)} {f:Nat} {C:qi} (h:C.ok P f) (hF:qfu (Env.tab T fns) P):qfu (Env.tab T ((f,C)::fns)) P:=fun f' C' h'=>by
 simp only [Env.tab,qvn] at h'
 split at h'
 ·rename_i e _
  injection h' with h'
  subst h'
  subst e
  exact h
 ·exact hF f' C' h'
theorem fnsOkO {P:Program} {T:List TI} {fns:List (Nat×qi)} (h:qfu (Env.tab T fns) P):qfu (Env.tabO T fns) P:=h
theorem tabOk_envO {P:Program} {T:List TI} (h:qsn P T=true) (fns:List (Nat×qi)):qbZ (Env.tabO T fns) P:=
 have h:=qnm h fns
 ⟨h.ty,fun t e he=>⟨(h.elem t e he).under,(h.elem t e he).info,(h.elem t e he).notInt⟩,h.dflt,h.size,h.arr,h.struct,h.str,h.int,h.bool,h.err,h.opt,h.map,h.off,h.zero,h.eq,h.mixed⟩
theorem qr5 {P:Program} {T:List TI} (G:qly) (h:qsn P T=true) (fns:List (Nat×qi)):qbZ (Env.tabG G T fns) P:=
 let e:=qnm h fns
 ⟨e.ty,fun t x he=>⟨(e.elem t x he).under,(e.elem t x he).info,(e.elem t x he).notInt⟩,e.dflt,e.size,e.arr,e.struct,e.str,e.int,e.bool,e.err,e.opt,e.map,e.off,e.zero,e.eq,e.mixed⟩
theorem qsl {P:Program} {T:List TI} {G:qly} :qfu (Env.tabG G T []) P:=fun f C h=>by cases h
theorem qqK {P:Program} {T:List TI} {G:qly} {fns:List (Nat×qi)} {f:Nat} {C:qi} (h:C.okT P G f) (hF:qfu (Env.tabG G T fns) P):qfu (Env.tabG G T ((f,C)::fns)) P:=fun f' C' h'=>by
 simp only [Env.tabG,Env.tab,qvn] at h'
 split at h'
 ·rename_i e _
  injection h' with h'
  subst h'
  subst e
  exact h
 ·exact hF f' C' h'
theorem qwl {P:Program} {T:List TI} {G:qly} {fns:List (Nat×qi)} (h:qfu (Env.tabG G T fns) P):qfu (Env.tabGO G T fns) P:=h
theorem qqn {P:Program} {T:List TI} (G:qly) (h:qsn P T=true) (fns:List (Nat×qi)):qbZ (Env.tabGO G T fns) P:=
 have h:=qnm h fns
 ⟨h.ty,fun t e he=>⟨(h.elem t e he).under,(h.elem t e he).info,(h.elem t e he).notInt⟩,h.dflt,h.size,h.arr,h.struct,h.str,h.int,h.bool,h.err,h.opt,h.map,h.off,h.zero,h.eq,h.mixed⟩
end Go.Vi
namespace Go.Vi
open Go.RowKit Go.WideShapes Go.ChangeShapes
def qoV (P:Program) (a:Nat→Bool) (sa:Nat) (b:List Field→Nat→Bool):List Field→Nat→Bool
 |f::r,off=>decide (f.offset=off)&&(decide (P.cellsOf f.type=sa)&&(a f.type&&b r (off+sa)))
 |[],_=>false
def qlj (P:Program):Ty→(Nat→Bool)×(List Field→Nat→Bool)
 | .int k=>(fun t=>match P.underlying t with
  |some (.int k')=>decide (k'=k)
  |_=>false,fun _ _=>false)
 | .bool=>(fun t=>match P.underlying t with
  |some .bool=>true
  |_=>false,fun _ _=>false)
 | .str=>(fun t=>match P.underlying t with
  |some .string=>true
  |_=>false,fun _ _=>false)
 | .err=>(fun _=>false,fun _ _=>false)
 | .opt _=>(fun _=>false,fun _ _=>false)
 | .map _ _=>(fun _=>false,fun _ _=>false)
 | .unit=>(fun t=>match P.underlying t with
  |some (.struct fs)=>fs.toList.isEmpty&&decide (P.cellsOf t=0)
  |_=>false,fun fs _=>fs.isEmpty)
 | .pair a b=>(fun t=>match P.underlying t with
  |some (.struct fs)=>qoV P (qlj P a).1 a.size (qlj P b).2 fs.toList 0&&decide (P.cellsOf t=a.size+b.size)
  |_=>false,qoV P (qlj P a).1 a.size (qlj P b).2)
 | .slice e=>(fun t=>match P.underlying t with
  |some (.slice et)=>decide (P.cellsOf et=e.size)&&(decide (e.size≠0)&&(qlj P e).1 et)
  |_=>false,fun _ _=>false)
 | .arr n e=>(fun t=>match P.underlying t with
  |some (.array m et)=>decide (m=n)&&(decide (P.cellsOf et=e.size)&&(decide (P.cellsOf t=n * e.size)&&(qlj P e).1 et))
  |_=>false,fun _ _=>false)
def Ty.bulk:(t:Ty)→t.den→Nat
 | .int _,_=>1
 | .bool,_=>1
 | .str,s=>List.length (α:=UInt8) s+1
 | .unit,_=>1
 | .err,_=>1
 | .opt _,_=>1
 | .map _ _,_=>1
 | .pair a b,x=>a.bulk x.1+b.bulk x.2
 | .slice e,xs=>(List.map e.bulk xs).sum+1
 | .arr _ e,xs=>(List.map e.bulk xs).sum+1
def Ty.good:(t:Ty)→t.den→Prop
 | .int k,n=>k.has n
 | .bool,_=>True
 | .str,s=>List.length (α:=UInt8) s≤maxLen
 | .unit,_=>True
 | .err,_=>True
 | .opt e,x=>match x with
  |some y=>e.good y
  |none=>True
 | .map _ _,_=>True
 | .pair a b,x=>a.good x.1∧b.good x.2
 | .slice e,xs=>List.length (xs:List e.den)≤maxLen∧∀y∈(xs:List e.den),e.good y
 | .arr _ e,xs=>∀y∈(xs:List e.den),e.good y
theorem Rep.good {w:World} {F:Nat→Prop} : {t:Ty} → {x:t.den} → {cs:List Value} →Rep w F t x cs→t.good x
 | .int _,_,_,h=>h.2
 | .bool,_,_,_=>trivial
 | .str,_,_,h=>h.2
 | .unit,_,_,_=>trivial
 | .err,_,_,_=>trivial
 | .map _ _,_,_,_=>trivial
 | .opt e,x,_,⟨v,_,h⟩=>by
  rcases h with ⟨rfl,_⟩|⟨y,a,cs,rfl,_,_,_,_,h⟩
  ·trivial
  ·exact h.good
 | .pair _ _,_,_,⟨_,_,_,h1,h2⟩=>⟨h1.good,h2.good⟩
 | .slice e,xs,_,⟨v,_,h⟩=>by
  refine ⟨?_,?_⟩
  ·rcases h with ⟨_,h⟩|⟨a,cap,_,h1,h2,_⟩
   ·have h:xs=[]:=h
    subst h
    exact Nat.zero_le _
   ·exact Nat.le_trans h1 h2
  intro y hy
  rcases h with ⟨_,h⟩|⟨a,cap,_,_,_,hx⟩
  ·have h:xs=[]:=h
   subst h
   cases hy
  ·obtain ⟨i,hi,rfl⟩:=List.getElem_of_mem hy
   obtain ⟨_,_,cs,_,h4⟩:=hx i _ (List.getElem?_eq_getElem hi)
   exact h4.good
 | .arr n e,xs,_,⟨hl,css,hcl,hc,hx⟩=>by
  intro y hy
  obtain ⟨i,hi,rfl⟩:=List.getElem_of_mem hy
  exact (hx i _ _ (List.getElem?_eq_getElem hi) (List.getElem?_eq_getElem (by have hi:i<List.length xs:=hi; omega))).good
def qmD:(us:List Ty)→PMs.den (us.map .val)→Prop
 |[],_=>True
 |u::us,x=>u.good x.1∧qmD us x.2
theorem qaD.good {P:Program} {w:World} {F:Nat→Prop} :(us:List Ty)→ {x:PMs.den (us.map .val)} → {vs:List Value} → {g i:List Nat} →qaD P w F (us.map .val) x vs g i→qmD us x
 |[],_,_,_,_,_=>trivial
 |_::us,_,_,_,_,⟨_,_,_,h2,h3⟩=>⟨h2.1.good,qaD.good us h3⟩
structure qr8 {H:Type} (bk:DataW H→Nat) (bkA:List (DataW H)→Nat):Prop where
 int:∀k n,1≤bk (.lit (.int k n))
 bool:∀b,1≤bk (.lit (.bool b))
 str:∀s,s.length+1≤bk (.lit (.string s))
 nil:1≤bk .nil
 slice:∀es sp,bkA es+1≤bk (.slice es sp)
 agg:∀ps,bkA ps+1≤bk (.agg ps)
 cons:∀d r,bk d+bkA r≤bkA (d::r)
section
variable {H:Type} {enc:TypeId×Value→H} {P:Program} {w:World} {bk:DataW H→Nat} {bkA:List (DataW H)→Nat}
theorem qoP {a:Addr} {n:Nat} {cs:List Value} (h:w.cells? 0 a n=some cs):cs.length=n∧qhB w a cs∧(n≠0→a.block<w.heap.size):=by
 obtain ⟨_,h1,h2⟩:=World.cells?_some h
 refine ⟨h1,fun j u hj=> ?_,fun hn=> ?_⟩
 ·have hlt:j<n:=by
   have:=(List.getElem?_eq_some_iff.1 hj).1
   omega
  rw [h2 j hlt]
  exact hj
 ·have h0:=h2 0 (by omega)
  have:∃v,cs[0]? =some v:=⟨_,List.getElem?_eq_getElem (by omega)⟩
  obtain ⟨v,hv⟩:=this
  rw [hv] at h0
  have e:a.add 0=a:=by simp [Addr.add]
  rw [e] at h0
  unfold World.cell? at h0
  split at h0
  ·rename_i c t hh
   exact (Array.getElem?_eq_some_iff.1 hh).1
  ·cases h0
theorem qo1 {α β:Type} {R:Nat→α→β→Prop} :(n:Nat)→(ys:List β)→ys.length=n→(∀i y,ys[i]? =some y→∃x,R i x y)→∃xs:List α,xs.length=n∧∀(i:Nat) (x:α) (y:β),xs[i]? =some x→ys[i]? =some y→R i x y
 |0,ys,_,_=>⟨[],rfl,fun i x y h=>by simp at h⟩
 |n+1,[],h,_=>by simp at h
 |n+1,y::ys,h,hr=>by
  obtain ⟨x,hx⟩:=hr 0 y rfl
  obtain ⟨xs,h1,h2⟩:=qo1 (R:=fun i=>R (i+1)) n ys (by simpa using h) fun i y hy=>hr (i+1) y (by simpa using hy)
  refine ⟨x::xs,by simp [h1],fun i x' y' hx' hy'=> ?_⟩
  cases i with
  |zero=>simp at hx' hy'; subst hx'; subst hy'; exact hx
  |succ i=>exact h2 i x' y' (by simpa using hx') (by simpa using hy')
theorem qor (hb:qr8 bk bkA) {e:Ty} :(xs:List e.den)→(ys:List (DataW H×List MemPlace))→xs.length=ys.length→(∀(i:Nat) (x:e.den) (y:DataW H×List MemPlace),xs[i]? =some x→ys[i]? =some y→e.bulk x≤bk y.1)→(List.map e.bulk xs).sum≤bkA (ys.map (·.1))
 |[],_,_,_=>by simp
 |x::xs,[],h,_=>by simp at h
 |x::xs,y::ys,h,hr=>by
  have h0:=hr 0 x y rfl rfl
  have h1:=qor hb xs ys (by simpa using h) fun i x y hx hy=>hr (i+1) x y (by simpa using hx) (by simpa using hy)
  have:=hb.cons y.1 (ys.map (·.1))
  simp only [List.map_cons,List.sum_cons]
  omega
theorem qs9 {t:Nat} (h:(qlj P .unit).1 t=true):∃fs,P.underlying t=some (.struct fs)∧fs.toList=[]∧P.cellsOf t=0:=by
 simp only [qlj] at h
 split at h
 ·rename_i fs hu
  simp only [Bool.and_eq_true,decide_eq_true_eq] at h
  exact ⟨fs,hu,by simpa using h.1,h.2⟩
 ·cases h
theorem qiG (hb:qr8 bk bkA):(u:Ty)→
  (∀(fuel t:Nat) (cs:List Value) (y:DataW H×List MemPlace),(qlj P u).1 t=true→DataW.trod enc P w 0 (fun _=>true) true fuel t cs=some y→∃x:u.den,Rep w (fun b=>b<w.heap.size) u x cs∧u.bulk x≤bk y.1)∧
  (∀(m:Nat) (fs:List Field) (off:Nat) (cs:List Value) (ys:List (DataW H×List MemPlace)),(qlj P u).2 fs off=true→ys.length=fs.length→(∀(i:Nat) (f:Field),fs[i]? =some f→DataW.trod enc P w 0 (fun _=>true) true m f.type ((cs.drop f.offset).take (P.cellsOf f.type))=ys[i]?)→cs.length=off+u.size→
   ∃x:u.den,Rep w (fun b=>b<w.heap.size) u x (cs.drop off)∧u.bulk x≤bkA (ys.map (·.1))+1)
 | .int k=>by
  refine ⟨fun fuel t cs y hd h=> ?_,fun m fs off cs ys hd=>by cases hd⟩
  simp only [qlj] at hd
  split at hd
  ·rename_i k' hu
   simp only [decide_eq_true_eq] at hd
   subst hd
   obtain ⟨n,rfl,rfl,hw⟩:=DataW.trod_int hu h
   refine ⟨n,⟨rfl,?_⟩,hb.int k' n⟩
   simpa [Lit.wf,IntKind.has] using hw
  ·cases hd
 | .bool=>by
  refine ⟨fun fuel t cs y hd h=> ?_,fun m fs off cs ys hd=>by cases hd⟩
  simp only [qlj] at hd
  split at hd
  ·rename_i hu
   obtain ⟨b,rfl,rfl⟩:=DataW.trod_bool hu h
   exact ⟨b,rfl,hb.bool b⟩
  ·cases hd
 | .err=>⟨fun fuel t cs y hd h=>(by cases hd),fun m fs off cs ys hd=>by cases hd⟩
 | .opt _=>⟨fun fuel t cs y hd h=>(by cases hd),fun m fs off cs ys hd=>by cases hd⟩
 | .map _ _=>⟨fun fuel t cs y hd h=>(by cases hd),fun m fs off cs ys hd=>by cases hd⟩
 | .str=>by
  refine ⟨fun fuel t cs y hd h=> ?_,fun m fs off cs ys hd=>by cases hd⟩
  simp only [qlj] at hd
  split at hd
  ·rename_i hu
   obtain ⟨s,rfl,rfl,hl⟩:=DataW.trod_string hu h
   refine ⟨s.data.toList,⟨by simp,?_⟩,hb.str _⟩
   rw [Array.length_toList]
   exact hl
  ·cases hd
 | .unit=>by
  refine ⟨fun fuel t cs y hd h=> ?_,fun m fs off cs ys hd hl _ hcl=> ?_⟩
  ·obtain ⟨fs,hu,hf,hc⟩:=qs9 hd
   obtain ⟨xs,n,rfl,rfl,hl,_⟩:=DataW.trod_struct hu h
   have:cs=[]:=List.eq_nil_of_length_eq_zero (by omega)
   subst this
   have:=hb.agg (xs.map (·.1))
   exact ⟨(),rfl,by show 1≤_; simp only; omega⟩
  ·have:cs.drop off=[]:=List.drop_of_length_le (by rw [hcl]; exact Nat.le_refl _)
   exact ⟨(),this,by show 1≤_; omega⟩
 | .pair a b=>by
  obtain ⟨ha,_⟩:=qiG hb a
  obtain ⟨_,hb2⟩:=qiG hb b
  have fld:∀(m:Nat) (fs:List Field) (off:Nat) (cs:List Value) (ys:List (DataW H×List MemPlace)),qoV P (qlj P a).1 a.size (qlj P b).2 fs off=true→ys.length=fs.length→(∀(i:Nat) (f:Field),fs[i]? =some f→DataW.trod enc P w 0 (fun _=>true) true m f.type ((cs.drop f.offset).take (P.cellsOf f.type))=ys[i]?)→cs.length=off+(a.size+b.size)→
   ∃x:(Ty.pair a b).den,Rep w (fun b=>b<w.heap.size) (.pair a b) x (cs.drop off)∧(Ty.pair a b).bulk x≤bkA (ys.map (·.1))+1:=by
   intro m fs off cs ys hd hl hi hcl
   cases fs with
   |nil=>cases hd
   |cons f r=>
    simp only [qoV,Bool.and_eq_true,decide_eq_true_eq] at hd
    obtain ⟨h1,h2,h3,h4⟩:=hd
    cases ys with
    |nil=>simp at hl
    |cons y ys=>
     have h0:=hi 0 f rfl
     rw [h1,h2] at h0
     obtain ⟨xa,k1,k2⟩:=ha m f.type _ y h3 h0
     obtain ⟨xb,k3,k4⟩:=hb2 m r (off+a.size) cs ys h4 (by simpa using hl) (fun i f' hf'=>by have:=hi (i+1) f' (by simpa using hf'); simpa using this) (by omega)
     refine ⟨(xa,xb),⟨_,_,?_,k1,k3⟩,?_⟩
     ·rw [←List.drop_drop,List.take_append_drop]
     ·have:=hb.cons y.1 (ys.map (·.1))
      show a.bulk xa+b.bulk xb≤_
      simp only [List.map_cons]
      omega
  refine ⟨fun fuel t cs y hd h=> ?_,fld⟩
  simp only [qlj] at hd
  split at hd
  ·rename_i fs hu
   simp only [Bool.and_eq_true,decide_eq_true_eq] at hd
   obtain ⟨xs,n,rfl,rfl,hl,hxl,hxi⟩:=DataW.trod_struct hu h
   obtain ⟨x,k1,k2⟩:=fld n fs.toList 0 cs xs hd.1 (by simpa using hxl) (fun i f hf=>hxi i f (by simpa using hf)) (by omega)
   have:=hb.agg (xs.map (·.1))
   exact ⟨x,by simpa using k1,by simp only; omega⟩
  ·cases hd
 | .slice e=>by
  obtain ⟨he,_⟩:=qiG hb e
  refine ⟨fun fuel t cs y hd h=> ?_,fun m fs off cs ys hd=>by cases hd⟩
  simp only [qlj] at hd
  split at hd
  ·rename_i et hu
   simp only [Bool.and_eq_true,decide_eq_true_eq] at hd
   obtain ⟨h1,h2,h3⟩:=hd
   rcases DataW.trod_slice hu h with ⟨rfl,rfl⟩|⟨a,len,cap,elems,rest,n,rfl,rfl,rfl,_,g1,g2,g3,g4,_⟩
   ·exact ⟨[],⟨_,rfl,.inl ⟨rfl,rfl⟩⟩,by show 0+1≤_; exact hb.nil⟩
   ·obtain ⟨xs,k1,k2⟩:=qo1 (α:=e.den) (R:=fun i x y=>a.block<w.heap.size∧(∃cs,qhB w (a.add (i * e.size)) cs∧Rep w (fun b=>b<w.heap.size) e x cs)∧e.bulk x≤bk y.1) len elems g3 (fun i y hy=>by
     have hlt:i<len:=by
      have:=(List.getElem?_eq_some_iff.1 hy).1
      omega
     have:=g4 i hlt
     rw [hy,h1] at this
     obtain ⟨cs,hc1,hc2⟩:=Option.bind_eq_some_iff.1 this
     obtain ⟨q1,q2,q3⟩:=qoP hc1
     obtain ⟨x,r1,r2⟩:=he n et cs y h3 hc2
     exact ⟨x,by simpa [q8] using q3 h2,⟨cs,q2,r1⟩,r2⟩)
    have idx:∀(i:Nat) (x:e.den),xs[i]? =some x→∃y,elems[i]? =some y:=fun i x hx=>⟨_,List.getElem?_eq_getElem (by have:=(List.getElem?_eq_some_iff.1 hx).1; omega)⟩
    refine ⟨xs,⟨_,rfl,.inr ⟨a,cap,by rw [k1],by omega,g2,fun i x hx=> ?_⟩⟩,?_⟩
    ·obtain ⟨y,hy⟩:=idx i x hx
     obtain ⟨q1,q2,_⟩:=k2 i x y hx hy
     exact ⟨q1,q1,q2⟩
    ·have:=qor hb xs elems (by omega) fun i x y hx hy=>(k2 i x y hx hy).2.2
     have:=hb.slice (elems.map (·.1)) (rest.map (·.1))
     show (List.map e.bulk xs).sum+1≤_
     simp only
     omega
  ·cases hd
 | .arr n e=>by
  obtain ⟨he,_⟩:=qiG hb e
  refine ⟨fun fuel t cs y hd h=> ?_,fun m fs off cs ys hd=>by cases hd⟩
  simp only [qlj] at hd
  split at hd
  ·rename_i m et hu
   simp only [Bool.and_eq_true,decide_eq_true_eq] at hd
   obtain ⟨rfl,h1,h2,h3⟩:=hd
   obtain ⟨ys,k,rfl,rfl,g1,g2,g3⟩:=DataW.trod_array hu h
   obtain ⟨xs,k1,k2⟩:=qo1 (α:=e.den) (R:=fun i x y=>Rep w (fun b=>b<w.heap.size) e x ((cs.drop (i * e.size)).take e.size)∧e.bulk x≤bk y.1) m ys g2 (fun i y hy=>by
    have hlt:i<m:=by
     have:=(List.getElem?_eq_some_iff.1 hy).1
     omega
    have:=g3 i hlt
    rw [hy,h1] at this
    exact he k et _ y h3 this)
   refine ⟨xs,⟨k1,(List.range m).map (fun i=>(cs.drop (i * e.size)).take e.size),by simp,?_,fun i x c hi hc=> ?_⟩,?_⟩
   ·rw [h2] at g1
    clear g3 k2 k1 g2 h hu h2
    induction m generalizing cs with
    |zero=>simp at g1; subst g1; rfl
    |succ m ih=>
     have:=ih (cs:=cs.drop e.size) (by rw [List.length_drop,g1,Nat.add_mul]; omega)
     rw [List.range_succ_eq_map,List.map_cons,List.flatten_cons,List.map_map]
     rw [Nat.zero_mul,List.drop_zero]
     have e2:((fun i=>List.take e.size (List.drop (i * e.size) cs)) ∘ Nat.succ)=fun i=>List.take e.size (List.drop (i * e.size) (cs.drop e.size)):=by
      funext i
      simp only [Function.comp,List.drop_drop]
      rw [Nat.succ_mul,Nat.add_comm]
     rw [e2,←this,List.take_append_drop]
   ·have hlt:i<m:=by
     have:=(List.getElem?_eq_some_iff.1 hi).1
     omega
    have hy:ys[i]? =some (ys[i]'(by omega)):=List.getElem?_eq_getElem (by omega)
    rw [List.getElem?_map,List.getElem?_range hlt] at hc
    simp only [Option.map_some,Option.some.injEq] at hc
    rw [←hc]
    exact (k2 i x _ hi hy).1
   ·have:=qor hb xs ys (by omega) fun i x y hx hy=>(k2 i x y hx hy).2
    have:=hb.agg (ys.map (·.1))
    show (List.map e.bulk xs).sum+1≤_
    simp only
    omega
  ·cases hd
theorem quv {u:Ty} {t:Nat} {v:Value} {r:Reach} {b0:Nat} (hd:(qlj P u).1 t=true) (hv:Value.okWide P w r b0 t v):(u.agg=true→∃cs,v= .agg cs)∧(u.agg=false→∀cs,v≠ .agg cs):=by
 cases u with
 |err=>cases hd
 |opt _=>cases hd
 |map _ _=>cases hd
 |int k=>
  simp only [qlj] at hd
  split at hd
  ·rename_i hu
   obtain ⟨n,rfl⟩:=okWide_int hu hv
   exact ⟨fun h=>(by cases h),fun _ cs h=>(by cases h)⟩
  ·cases hd
 |bool=>
  simp only [qlj] at hd
  split at hd
  ·rename_i hu
   obtain ⟨n,rfl⟩:=okWide_bool hu hv
   exact ⟨fun h=>(by cases h),fun _ cs h=>(by cases h)⟩
  ·cases hd
 |str=>
  simp only [qlj] at hd
  split at hd
  ·rename_i hu
   obtain ⟨n,rfl⟩:=okWide_string hu hv
   exact ⟨fun h=>(by cases h),fun _ cs h=>(by cases h)⟩
  ·cases hd
 |slice e=>
  simp only [qlj] at hd
  split at hd
  ·rename_i hu
   obtain ⟨a,n,c,rfl⟩:=okWide_slice hu hv
   exact ⟨fun h=>(by cases h),fun _ cs h=>(by cases h)⟩
  ·cases hd
 |unit=>
  simp only [qlj] at hd
  split at hd
  ·rename_i hu
   obtain ⟨cs,h,_⟩:=okWide_struct hu hv
   exact ⟨fun _=>⟨cs,h⟩,fun h=>(by cases h)⟩
  ·cases hd
 |pair a b=>
  simp only [qlj] at hd
  split at hd
  ·rename_i hu
   obtain ⟨cs,h,_⟩:=okWide_struct hu hv
   exact ⟨fun _=>⟨cs,h⟩,fun h=>(by cases h)⟩
  ·cases hd
 |arr n e=>
  simp only [qlj] at hd
  split at hd
  ·rename_i hu
   unfold Value.okWide at hv
   rw [hu] at hv
   obtain ⟨cs,h,_⟩:=hv
   exact ⟨fun _=>⟨cs,h⟩,fun h=>(by cases h)⟩
  ·cases hd
def qkZ:(us:List Ty)→PMs.den (us.map .val)→Nat
 |[],_=>0
 |u::us,x=>u.bulk x.1+qkZ us x.2
def qjl (P:Program):List Ty→List Nat→Bool
 |[],[]=>true
 |u::us,t::ts=>(qlj P u).1 t&&qjl P us ts
 |_,_=>false
theorem qpm (hb:qr8 bk bkA) {r:Reach} {b0:Nat} :(us:List Ty)→ {ts:List Nat} → {vs:List Value} → {ds:List (DataW H)} → {ps:List MemPlace} →qjl P us ts=true→(∀(j:Nat) t v,ts[j]? =some t→vs[j]? =some v→Value.okWide P w r b0 t v)→
  DataW.TrodAll enc P w 0 (fun _=>true) true ts vs ds ps→∃x:PMs.den (us.map .val),qaD P w (fun b=>b<w.heap.size) (us.map .val) x vs [] []∧qkZ us x≤bkA ds
 |[],[],vs,ds,ps,_,_,h=>by
  obtain ⟨rfl,rfl,rfl⟩:=trodAll_nil h
  exact ⟨(),⟨rfl,rfl,rfl⟩,Nat.zero_le _⟩
 |u::us,t::ts,vs,ds,ps,hd,hv,h=>by
  simp only [qjl,Bool.and_eq_true] at hd
  obtain ⟨v,vs',d,ds',p,q,rfl,rfl,rfl,h0,hr⟩:=trodAll_cons h
  obtain ⟨fuel,h0⟩:=h0
  obtain ⟨x,k1,k2⟩:=(qiG hb u).1 fuel t _ _ hd.1 h0
  obtain ⟨xs,k3,k4⟩:=qpm hb us hd.2 (fun j t' v' ht hv'=>hv (j+1) t' v' (by simpa using ht) (by simpa using hv')) hr
  have:=hb.cons d ds'
  exact ⟨(x,xs),⟨v,vs',rfl,⟨k1,quv hd.1 (hv 0 t v rfl rfl)⟩,k3⟩,by show u.bulk x+qkZ us xs≤_; simp only at k2; omega⟩
theorem qpJ {W W':World} {sp:Nat→Bool} (hl:laidOutB P=true): {ts:List Nat} → {vs:List Value} → {ds:List (DataW H)} → {ps:List MemPlace} →(∀t∈ts,P.readableRec t=true∧t<P.types.size)→DataW.TrodAll enc P W 0 (fun _=>true) true ts vs ds ps→Below W.heap.size W W'→(∀x∈ps,x.block<W.heap.size)→(∀x∈ps,sp x.block=true)→
  DataW.TrodAll enc P W' 0 sp true ts vs ds ps
 |[],_,_,_,_,h,_,_,_=>by
  obtain ⟨rfl,rfl,rfl⟩:=trodAll_nil h
  rfl
 |t::ts,_,_,_,ht,h,hb,hlt,hs=>by
  obtain ⟨v,vs',d,ds',p,q,rfl,rfl,rfl,h0,hr⟩:=trodAll_cons h
  exact trodAll_cons_mk (WideElems.Trod_stays hl (ht t List.mem_cons_self).1 (ht t List.mem_cons_self).2 h0 (fun x hx=>hb.same (hlt x (List.mem_append_left _ hx))) fun x hx=>hs x (List.mem_append_left _ hx)) (qpJ hl (fun t' h'=>ht t' (List.mem_cons_of_mem _ h')) hr hb (fun x hx=>hlt x (List.mem_append_right _ hx)) fun x hx=>hs x (List.mem_append_right _ hx))
end
end Go.Vi
namespace Go.Vi
open Go.RowKit Go.WideShapes Go.ChangeShapes
section
variable {H:Type} {enc:TypeId×Value→H} {P:Program}
theorem qsp {f:Func} {s:ChangeSpec} {apart fresh handsOn again:Bool} {W W':World} {args:Array Value} {v:Value} {ds gs:List (DataW H)} {before pa pv:List MemPlace}
  (hW:DataW.Whole enc P f.params.toList s.vars apart W args.toList ds gs before)
  (hres:∀(b:Nat) (sp:Nat→Bool) (hd:Bool),DataW.TrodAll enc P W' b sp hd f.resultTypes.toList (v.resultList f.resultTypes.size) (s.fn H (ds++gs)).results [])
  (hargs:∀sp:Nat→Bool,(∀p∈before,sp p.block=true)→DataW.TrodAll enc P W' 0 sp true f.params.toList args.toList (s.fn H (ds++gs)).args pa)
  (hvars:∀sp:Nat→Bool,(∀p∈before,sp p.block=true)→DataW.TrodVars enc P W' sp s.vars (s.fn H (ds++gs)).vars pv)
  (hps:before=pa++pv) (hb:Below W.heap.size W W')
  (hok:∀(j:Nat) (t:TypeId) (r:Value),f.resultTypes[j]? =some t→(v.resultList f.resultTypes.size)[j]? =some r→Value.okWide P W' .any 0 t r):
  s.post enc P f apart fresh handsOn again W args v W':=by
 have hlt:∀p∈before,p.block<W.heap.size:=fun p hp=>hW.lt p hp
 have hold:∀p∈before,(fun b=>decide (b<W.heap.size)) p.block=true:=fun p hp=>by simpa using hlt p hp
 refine ⟨ds,gs,before,[],pa,pv,hW,hres _ _ _,hargs _ hold,hvars _ hold,World.keptBut_mono (fun p hp=>⟨hp,?_⟩) (hb.frame (· ∈before)),fun _=> ?_⟩
 ·rw [hps,List.mem_append] at hp
  exact Or.inr hp
 ·obtain ⟨_,_,_,_,_,hz,hn⟩:=hW
  refine ⟨hok,_,_,([]++pa)++pv,⟨[]++pa,pv,trodAll_append (hargs _ (fun _ _=>rfl)) (hres _ _ _),hvars _ (fun _ _=>rfl),rfl,?_,?_⟩,?_⟩
  ·intro b off hp
   have hin:MemPlace.cell b off∈before:=by rw [hps]; simpa using hp
   rw [hb.frozen (hlt _ hin)]
   exact hz b off hin
  ·intro ha
   have:=hn ha
   rw [hps] at this
   simpa using this
  ·intro p hp _
   rw [hps]
   simpa using hp
theorem qkL {T:qly} {bk:DataW H→Nat} {bkA:List (DataW H)→Nat} (hb:qr8 bk bkA) {B:Nat} {fi:Nat} {fn:Func} {s:ChangeSpec} {apart fresh handsOn again:Bool} {us:List Ty} {ts:List Nat} {tb:Nat} {sem:Nat→PMs.den (us.map .val)→Option (RMs.den [.val .bool]×PMs.ioDen (us.map .val))}
  (hp:fn.params.toList=ts) (hr:fn.resultTypes= #[tb]) (htb:P.underlying tb=some .bool) (hdeep:qjl P us ts=true) (hl:laidOutB P=true) (hread:ts.all (fun t=>P.readableRec t&&decide (t<P.types.size))=true) (hvars:s.vars=[])
  (hfn:∀ds:List (DataW H),ds.length=us.length→s.fn H ds= { results:=[.lit (.bool true)],args:=ds })
  (hC:∀N,qi.okT P T fi ⟨us.map .val,[.val .bool],sem N⟩) (hsem:∀x,qmD us x→qkZ us x≤B→∃N z,sem N x=some ((true,()),z))
  {W:World} {args:Array Value} {ds gs:List (DataW H)} {before:List MemPlace} {r:Reach} {base:Nat}
  (hT:qdD T W fun b=>b<W.heap.size)
  (hval:∀(j:Nat) t v,fn.params[j]? =some t→args[j]? =some v→Value.okWide P W r base t v)
  (hW:DataW.Whole enc P fn.params.toList s.vars apart W args.toList ds gs before) (hk:bkA (ds++gs)≤B):
  Calls P fi args W fun e W'=>∃v,e= .returned v∧s.post enc P fn apart fresh handsOn again W args v W':=by
 have hW':=hW
 obtain ⟨p,q,hA,hV,rfl,hfz,hnd⟩:=hW
 rw [hvars] at hV
 obtain ⟨rfl,rfl⟩:=trodVars_none hV
 rw [hp] at hA
 have hrd:∀t∈ts,P.readableRec t=true∧t<P.types.size:=fun t ht=>by
  have:=List.all_eq_true.1 hread t ht
  simpa using this
 have hlen:∀ {ts:List Nat} {us:List Ty} {vs:List Value} {ds:List (DataW H)} {p:List MemPlace},qjl P us ts=true→DataW.TrodAll enc P W 0 (fun _=>true) true ts vs ds p→ds.length=us.length:=by
  intro ts
  induction ts with
  |nil=>
   intro us vs ds p hd h
   obtain ⟨rfl,rfl,rfl⟩:=trodAll_nil h
   cases us with
   |nil=>rfl
   |cons u us=>cases hd
  |cons t ts ih=>
   intro us vs ds p hd h
   obtain ⟨v,vs',d,ds',p,q,rfl,rfl,rfl,h0,hr⟩:=trodAll_cons h
   cases us with
   |nil=>cases hd
   |cons u us=>
    simp only [qjl,Bool.and_eq_true] at hd
    simp only [List.length_cons]
    rw [ih hd.2 hr]
 have hdl:=hlen hdeep hA
 obtain ⟨x,k1,k2⟩:=qpm hb us hdeep (fun j t v ht hv=>hval j t v (by rw [←Array.getElem?_toList,hp]; exact ht) (by rw [←Array.getElem?_toList]; exact hv)) hA
 rw [List.append_nil] at hk
 obtain ⟨N,z,hz⟩:=hsem x (qaD.good us k1) (by omega)
 have:=(hC N).2 W (fun b=>b<W.heap.size) x ((true,()),z) args.toList [] [] hT k1 (fun b hb=>by cases hb) List.nodup_nil hz
 rw [Array.toArray_toList] at this
 refine this.mono fun e W' ⟨v,he,vs,bs,hv,_,_,hcs,_,hkept⟩=>⟨v,he,?_⟩
 obtain ⟨v',r',b1,b2,rfl,rfl,⟨rfl,hrep,_,hna⟩,hnil,_⟩:=hcs
 subst hnil
 have hv':v'= .bool true:=by
  have:v'.cells.toList=[.bool true]:=hrep
  have hna:=hna rfl
  cases v' <;> simp_all [Value.cells]
 rw [hv'] at hv
 have hv:v= .bool true:=hv
 rw [hv]
 have hbelow:Below W.heap.size W W':=⟨hkept.os,hkept.tape,hkept.output,hkept.size,fun k hk=>hkept.block k hk fun h=>by cases h⟩
 have hlt:∀x∈p,x.block<W.heap.size:=fun x hx=>hW'.lt x (by simpa using hx)
 refine qsp (pa:=p) (pv:=[]) hW' (fun b sp hd=> ?_) (fun sp hsp=> ?_) (fun sp _=> ?_) rfl hbelow (ok_one hr rfl (okWide_bool_mk htb true))
 ·rw [List.append_nil,hfn ds hdl,hr]
  exact trodAll_cons_mk (p':=[]) (shut_bool htb true) trodAll_mk0
 ·rw [List.append_nil,hfn ds hdl,hp]
  exact qpJ hl hrd hA hbelow hlt fun x hx=>hsp x (by simpa using hx)
 ·rw [List.append_nil,hfn ds hdl,hvars]
  rfl
theorem qvM {bk:DataW H→Nat} {bkA:List (DataW H)→Nat} (hb:qr8 bk bkA) {B:Nat} {fi:Nat} {fn:Func} {s:ChangeSpec} {apart fresh handsOn again:Bool} {us:List Ty} {ts:List Nat} {tb:Nat} {sem:Nat→PMs.den (us.map .val)→Option (RMs.den [.val .bool]×PMs.ioDen (us.map .val))}
  (hp:fn.params.toList=ts) (hr:fn.resultTypes= #[tb]) (htb:P.underlying tb=some .bool) (hdeep:qjl P us ts=true) (hl:laidOutB P=true) (hread:ts.all (fun t=>P.readableRec t&&decide (t<P.types.size))=true) (hvars:s.vars=[])
  (hfn:∀ds:List (DataW H),ds.length=us.length→s.fn H ds= { results:=[.lit (.bool true)],args:=ds })
  (hC:∀N,qi.ok P fi ⟨us.map .val,[.val .bool],sem N⟩) (hsem:∀x,qmD us x→qkZ us x≤B→∃N z,sem N x=some ((true,()),z))
  {W:World} {args:Array Value} {ds gs:List (DataW H)} {before:List MemPlace} {r:Reach} {base:Nat}
  (hval:∀(j:Nat) t v,fn.params[j]? =some t→args[j]? =some v→Value.okWide P W r base t v)
  (hW:DataW.Whole enc P fn.params.toList s.vars apart W args.toList ds gs before) (hk:bkA (ds++gs)≤B):
  Calls P fi args W fun e W'=>∃v,e= .returned v∧s.post enc P fn apart fresh handsOn again W args v W':=by
 exact qkL hb hp hr htb hdeep hl hread hvars hfn hC hsem qdD.none hval hW hk
end
end Go.Vi
namespace Go.Vi
open Go.RowKit
theorem qsz {P:Program} {f:Nat} {fn:Func} (hf:P.funcs[f]? =some fn) (hb:fn.body.isSome=true) (hname:(fn.name == "runtime.NumGoroutine")=false) (φ:List UInt8→List UInt8→Int) (hφ:∀a b,IntKind.i64.has (φ a b))
  (h:∀(a b:ByteArray) (w:World),Calls P f #[.string a,.string b] w fun e w'=>e= .returned (.int .i64 (φ a.data.toList b.data.toList))∧w'=w):
  qi.ok P f ⟨[.val .str,.val .str],[.val (.int .i64)],fun x=>some ((φ x.1 x.2.1,()),())⟩:=by
 obtain ⟨c,hc⟩:=Option.isSome_iff_exists.1 hb
 refine ⟨fun as w=>qgt hf hc hname as w,fun w F x y as g i _ hp hpre hn hy=> ?_⟩
 obtain ⟨a,b,_⟩:=x
 obtain ⟨v1,r1,rfl,h1,v2,r2,rfl,h2,rfl,rfl,rfl⟩:=hp
 obtain ⟨e1,_⟩:=qaA.str h1
 obtain ⟨e2,_⟩:=qaA.str h2
 subst e1
 subst e2
 injection hy with hy
 subst hy
 refine (h ⟨List.toArray a⟩ ⟨List.toArray b⟩ w).mono fun e w' ⟨he,hw⟩=>⟨_,he,?_⟩
 subst hw
 refine ⟨[_],[],rfl,List.nodup_nil,fun b hb=>(by cases hb),⟨_,_,[],[],rfl,rfl,⟨rfl,?_⟩,rfl,rfl⟩,rfl,qc7.refl _ _⟩
 exact qaA.ofInt _ _ (hφ _ _)
theorem qi.lift {P:Program} {f:Nat} {C:qi} {T:qly} (h:C.ok P f):C.okT P T f:=⟨h.1,fun w F x y as g i _ a b c d=>h.2 w F x y as g i qdD.none a b c d⟩
theorem qlU (a b:List UInt8):IntKind.i64.has (Lib.compareBytes a b):=by
 have:Lib.compareBytes a b= -1∨Lib.compareBytes a b=0∨Lib.compareBytes a b=1:=by
  induction a generalizing b with
  |nil=>cases b <;> simp [Lib.compareBytes]
  |cons x a ih=>cases b with
   |nil=>simp [Lib.compareBytes]
   |cons y b=>
    simp only [Lib.compareBytes]
    split
    ·simp
    ·split
     ·simp
     ·exact ih b
 rcases this with h|h|h <;> rw [h] <;> exact ⟨by decide,by decide⟩
end Go.Vi
