/- The abstract interpreter: a call, from state to state. -/
import Derived.Test.YtfcdfdnlgfebmaaGreatDoorViOpB
set_option linter.unusedVariables false
set_option linter.unusedSimpArgs false
set_option linter.unnecessarySimpa false
set_option linter.unusedSectionVars false
namespace Go.Vi
open Go.RowKit
section
variable {C:Ctx} {E:Env} {σ:St} {tm:Array Value} {a:Act} {w w':World} {own:Nat→List Nat} {o:Oper} {p:qhl} [Tabbed E C]
theorem qm0:∀(us:List U) (σ:St),(us.map (·.s)).Nodup→(∀u∈us,u.bump=true∧u.s<σ.length)→(∀u∈us,qt (qr σ us) u.s=((qt σ u.s).1+1,u.a))∧∀s,s∉us.map (·.s)→qt (qr σ us) s=qt σ s
 |[],σ,_,_=>⟨fun u hu=>(by cases hu),fun _ _=>rfl⟩
 |u::us,σ,hn,hb=>by
  have hn':=List.nodup_cons.1 hn
  obtain ⟨h1,h2⟩:=qm0 us (qR σ u) hn'.2 (fun v hv=>⟨(hb v (List.mem_cons_of_mem _ hv)).1,by rw [qak]; exact (hb v (List.mem_cons_of_mem _ hv)).2⟩)
  obtain ⟨b1,b2⟩:=hb u List.mem_cons_self
  refine ⟨fun v hv=> ?_,fun s hs=> ?_⟩
  ·rcases List.mem_cons.1 hv with rfl|hv
   ·show qt (qr (qR σ v) us) v.s=_
    rw [h2 _ hn'.1,qM σ v b2,b1]
    rfl
   ·show qt (qr (qR σ u) us) v.s=_
    rw [h1 v hv]
    have hne:v.s≠u.s:=fun e=>by
     have hm:v.s∈us.map (·.s):=List.mem_map_of_mem hv
     rw [e] at hm
     exact hn'.1 hm
    rw [qv _ _ hne]
  ·have hs':s≠u.s∧s∉us.map (·.s):=by simpa using hs
   show qt (qr (qR σ u) us) s=_
   rw [h2 s hs'.2,qv _ _ hs'.1]
theorem qeW {F:Nat→Prop} :(ps:List PM)→ {y:PMs.ioDen ps} → {as:List Value} → {ss i inn:List Nat} →qbW σ tm own ps as ss i inn→qcV w F ps y as i→
  (qfp ps y ss).map (·.s)=ss∧(∀u∈qfp ps y ss,u.bump=true∧((∃(t:Ty) (z:t.den) (b:Nat) (n1:List Nat) (cs:List Value) (te:Nat),u.a= .box (.val t z)∧b∈i∧own u.s=b::n1∧tm.getD u.s undef=ptr b 0∧w.heap[b]? =some (.cells cs.toArray te (0,0))∧Rep w F t z cs)∨
   ∃(et:Nat) (e:Ty) (xs:List e.den),u.a= .own et e xs∧q7 w F et e xs (tm.getD u.s undef) (own u.s)∧(own u.s).take 1=own u.s))
 |[],_,_,_,_,_,⟨h1,_⟩,_=>by subst h1; exact ⟨rfl,fun u hu=>by cases hu⟩
 | .io t::ps,y,as,_,_,_,⟨s,ss,b,i2,n1,n2,h0,h1,h2,h3,h4,h5,h6⟩,⟨b',i2',cs,te,k1,k2,k3,k4⟩=>by
  subst h0
  rw [h1] at k1
  injection k1 with e1 e2
  subst e1; subst e2
  obtain ⟨g1,g2⟩:=qeW (ss:=ss) ps h6 k4
  refine ⟨by simp [qfp,g1],fun u hu=> ?_⟩
  rcases List.mem_cons.1 hu with rfl|hu
  ·exact ⟨rfl,.inl ⟨t,y.1,b,n1,cs,te,rfl,by rw [h1]; exact List.mem_cons_self,h3,h4,k2,k3⟩⟩
  ·obtain ⟨q0,q⟩:=g2 u hu
   refine ⟨q0,?_⟩
   rcases q with ⟨t',z,b',n1',cs',te',q1,q2,q3⟩|q
   ·exact .inl ⟨t',z,b',n1',cs',te',q1,by rw [h1]; exact List.mem_cons_of_mem _ q2,q3⟩
   ·exact .inr q
 | .ior et e::ps,y,as,_,_,_,⟨s,ss,i1,i2,h0,h1,h2,h3,h4,h5,h6⟩,⟨i1',i2',k1,k2,k3⟩=>by
  subst h0
  have e1:i1'=i1:=by
   obtain ⟨cells,_,hb,_⟩:=k2
   rw [hb,h4]
  subst e1
  rw [h1] at k1
  have e2:=List.append_cancel_left k1
  subst e2
  obtain ⟨g1,g2⟩:=qeW (ss:=ss) ps h6 k3
  refine ⟨by simp [qfp,g1],fun u hu=> ?_⟩
  rcases List.mem_cons.1 hu with rfl|hu
  ·refine ⟨rfl,.inr ⟨et,e,y.1,rfl,?_,?_⟩⟩
   ·show q7 w F et e y.1 (tm.getD s undef) (own s)
    rw [h3,h2]; exact k2
   ·show (own s).take 1=own s
    rw [h2,h4]
    cases (as.headD undef).ownBlock <;> rfl
  ·obtain ⟨q0,q⟩:=g2 u hu
   refine ⟨q0,?_⟩
   rcases q with ⟨t',z,b',n1',cs',te',q1,q2,q3⟩|q
   ·exact .inl ⟨t',z,b',n1',cs',te',q1,by rw [h1]; exact List.mem_append_right _ q2,q3⟩
   ·exact .inr q
 | .val _::ps,y,as,ss,_,_,h1,h2=>by
  have:=qeW (ss:=ss) ps h1 (y:=y) h2
  simpa [qfp] using this
 | .own _ _::ps,y,as,ss,_,_,h1,h2=>by
  have:=qeW (ss:=ss) ps h1 (y:=y) h2
  simpa [qfp] using this
 | .nil _ _::ps,y,as,ss,_,_,h1,h2=>by
  have:=qeW (ss:=ss) ps h1 (y:=y) h2
  simpa [qfp] using this
 | .rd _::ps,y,as,ss,_,_,h1,h2=>by
  have:=qeW (ss:=ss) ps h1 (y:=y) h2
  simpa [qfp] using this
 | .fn _ _::ps,y,as,ss,_,_,h1,h2=>by
  have:=qeW (ss:=ss) ps h1 (y:=y) h2
  simpa [qfp] using this
theorem qkB.box: {ss i inn:List Nat} →qkB σ own ss i inn→(∀b∈i,∃s∈ss,b∈own s)∧(∀b∈inn,∃s∈ss,b∈own s)∧(∀s∈ss,s<σ.length)
 |[],_,_,⟨h1,h2⟩=>by subst h1; subst h2; exact ⟨fun b hb=>(by cases hb),fun b hb=>(by cases hb),fun b hb=>(by cases hb)⟩
 |s::ss,_,_,⟨i1,i2,n1,n2,h1,h2,h3,h4,h5,h6⟩=>by
  obtain ⟨k1,k2,k3⟩:=h6.box
  subst h1; subst h2
  refine ⟨fun c hc=> ?_,fun c hc=> ?_,fun c hc=> ?_⟩
  ·rcases List.mem_append.1 hc with hc|hc
   ·exact ⟨s,List.mem_cons_self,by rw [h3]; exact List.mem_append_left _ hc⟩
   ·obtain ⟨s',g1,g2⟩:=k1 c hc
    exact ⟨s',List.mem_cons_of_mem _ g1,g2⟩
  ·rcases List.mem_append.1 hc with hc|hc
   ·exact ⟨s,List.mem_cons_self,by rw [h3]; exact List.mem_append_right _ hc⟩
   ·obtain ⟨s',g1,g2⟩:=k2 c hc
    exact ⟨s',List.mem_cons_of_mem _ g1,g2⟩
  ·rcases List.mem_cons.1 hc with rfl|hc
   ·exact h5
   ·exact k3 c hc
theorem qkB.nodup (hnd:∀s,(own s).Nodup) (hap:∀s s' b,b∈own s→b∈own s'→s=s'): {ss i inn:List Nat} →qkB σ own ss i inn→ss.Nodup→i.Nodup∧∀b∈i,b∉inn
 |[],_,_,⟨h1,h2⟩,_=>by subst h1; subst h2; exact ⟨List.nodup_nil,fun b hb=>by cases hb⟩
 |s::ss,_,_,⟨i1,i2,n1,n2,h1,h2,h3,h4,h5,h6⟩,hn=>by
  have hn:=List.nodup_cons.1 hn
  obtain ⟨k1,k2⟩:=h6.nodup hnd hap hn.2
  obtain ⟨b1,b2,_⟩:=h6.box
  subst h1; subst h2
  have hs:=hnd s
  rw [h3] at hs
  have hs:=List.nodup_append.1 hs
  have away:∀c∈i1++n1,(∃s'∈ss,c∈own s')→False:=fun c hc ⟨s',g1,g2⟩=>by
   have:=hap s s' c (by rw [h3]; exact hc) g2
   subst this
   exact hn.1 g1
  refine ⟨List.nodup_append.2 ⟨hs.1,k1,fun c hc c' hc' e=> ?_⟩,fun c hc=> ?_⟩
  ·subst e
   exact away c (List.mem_append_left _ hc) (b1 c hc')
  rcases List.mem_append.1 hc with hc|hc
  ·intro hm
   rcases List.mem_append.1 hm with hm|hm
   ·exact hs.2.2 c hc c hm rfl
   ·exact away c (List.mem_append_left _ hc) (b2 c hm)
  ·intro hm
   rcases List.mem_append.1 hm with hm|hm
   ·exact away c (List.mem_append_right _ hm) (b1 c hc)
   ·exact k2 c hc hm
theorem qkB.first: {ss i inn:List Nat} →qkB σ own ss i inn→∀s∈ss,∀b∈(own s).take 1,b∈i
 |[],_,_,_,s,hs,_,_=>by cases hs
 |s::ss,_,_,⟨i1,i2,n1,n2,h1,h2,h3,h4,h5,h6⟩,s',hs,b,hb=>by
  rw [h1]
  rcases List.mem_cons.1 hs with rfl|hs
  ·exact List.mem_append_left _ (by rw [h4]; exact hb)
  ·exact List.mem_append_right _ (h6.first s' hs b hb)
theorem qsd {X:Sit} (rs:List RM) {y:RMs.den rs} {vs:List Value} {bs:List Nat} (h:qaW X.w X.F (qc1 rs y) vs bs):qaF X (qix rs y) (qe4 vs) bs:=by
 match rs,y,h with
 |[],y,h=>
  obtain ⟨h1,h2⟩:=h
  subst h1
  exact ⟨[],rfl,rfl,h2⟩
 |[.val t],y,⟨v,r,b1,b2,h1,h2,h3,h4,h5⟩=>
  subst h4
  rw [h1,h2,h5,h3.1]
  exact ⟨rfl,h3.2⟩
 |[.own et e],y,⟨v,r,b1,b2,h1,h2,h3,h4,h5⟩=>
  subst h4
  rw [h1,h2,h5,List.append_nil]
  exact h3
 |r1::r2::rs,y,h=>
  have e1:qix (r1::r2::rs) y= .tup (qc1 (r1::r2::rs) y):=by unfold qix; split <;> first|rfl|(rename_i h _; cases h)
  rw [e1]
  refine ⟨vs,?_,h⟩
  cases r1 <;> cases r2 <;> (obtain ⟨v,r,b1,b2,h1,h2,h3,v2,r2',b3,b4,h4,_⟩:=h; subst h1; subst h4; rfl)
theorem qmz (rs:List RM) (y:RMs.den rs):(qix rs y).mentions=[]:=by
 unfold qix
 split <;> rfl
theorem qlY (h:qag C σ a.tmps w own) {D:qk} {f:Nat} {y:RMs.den D.rs×PMs.ioDen D.ps} {as:Array Value} {gone ios g i inn:List Nat} {al:List Value} {F:Nat→Prop}
  (hcall:(∀b∈g++i,¬F b∧b<w.heap.size)→(g++i).Nodup→Calls C.P f as w fun e w'=>∃v,e= .returned v∧D.Post w F al g i y v w') (hg:∀b∈g,∃s∈gone,b∈own s) (hgn:gone.Nodup→g.Nodup) (hgl:∀s∈gone,s<σ.length) (hbx:qbW σ a.tmps own D.ps al ios i inn)
  (hF:∀b,F b→C.free w own b∨b∈inn∨(∃s,s∉gone++ios∧b∈own s))
  (hflat:(RMs.flat D.rs=true∧PMs.ioFlat D.ps=true)∨∀b,F b→C.free w own b∨b∈inn)
  (hnd:(gone++ios).Nodup) (hdst:∀d,o.dst=some d→d∉gone++ios) (hd:∀u∈qbV o (qix D.rs y.1),u.s<σ.length)
  (hr:(execOp a.eval o).run C.P w= .ok (.enter f as) w):
  qdT C o a w (qr σ (gone.map (fun s=>⟨s,true,.undef⟩)++qfp D.ps y.2 ios++qbV o (qix D.rs y.1))):=by
 have hn1:=List.nodup_append.1 hnd
 have hbf:=hbx.flat
 obtain ⟨bx1,bx2,bx3⟩:=hbf.box
 obtain ⟨bn1,bn2⟩:=hbf.nodup h.nodup h.apart hn1.2.1
 have hgi:(g++i).Nodup:=by
  refine List.nodup_append.2 ⟨hgn hn1.1,bn1,fun b hb b' hb' e=> ?_⟩
  subst e
  obtain ⟨s,hs,k1⟩:=hg b hb
  obtain ⟨s',hs',k2⟩:=bx1 b hb'
  have:=h.apart s s' b k1 k2
  subst this
  exact hn1.2.2 s hs s hs' rfl
 have gi:∀b∈g++i,∃s∈gone++ios,b∈own s:=fun b hb=>by
  rcases List.mem_append.1 hb with hb|hb
  ·obtain ⟨s,h1,h2⟩:=hg b hb
   exact ⟨s,List.mem_append_left _ h1,h2⟩
  ·obtain ⟨s,h1,h2⟩:=bx1 b hb
   exact ⟨s,List.mem_append_right _ h1,h2⟩
 have hpre:∀b∈g++i,¬F b∧b<w.heap.size:=by
  intro b hb
  obtain ⟨s,hs,hbs⟩:=gi b hb
  refine ⟨fun hFb=> ?_,(h.mine s b hbs).2⟩
  rcases hF b hFb with hf|hf|⟨s',hs',hf⟩
  ·exact hf.2.2 s hbs
  ·obtain ⟨s',hs',k⟩:=bx2 b hf
   have:=h.apart s s' b hbs k
   subst this
   rcases List.mem_append.1 hb with hb|hb
   ·obtain ⟨s2,hs2,k2⟩:=hg b hb
    have:=h.apart s s2 b hbs k2
    subst this
    exact hn1.2.2 s hs2 s hs' rfl
   ·exact bn2 b hb hf
  ·have:=h.apart s s' b hbs hf
   subst this
   exact hs' hs
 intro K Q hK
 unfold Oper.wp
 rw [hr]
 refine Calls.mono (hcall hpre hgi) ?_
 rintro e w' ⟨v,rfl,vs,bs,rfl,hbn,hbl,hres,hios,hkept⟩
 obtain ⟨u1,u2⟩:=qeW (σ:=σ) (tm:=a.tmps) (own:=own) D.ps hbx hios
 generalize hus:gone.map (fun s=>(⟨s,true,.undef⟩:U))++qfp D.ps y.2 ios++qbV o (qix D.rs y.1)=us at hK
 have hslots:us.map (·.s)=gone++ios++o.dst.toList:=by
  rw [←hus,List.map_append,List.map_append,u1]
  congr 1
  ·congr 1
   rw [List.map_map]
   exact List.map_id _
  ·unfold qbV
   cases o.dst <;> rfl
 have hdst':∀d∈o.dst.toList,d∉gone++ios:=fun d hd=>hdst d (by simpa using hd)
 have hsn:(us.map (·.s)).Nodup:=by
  rw [hslots]
  refine List.nodup_append.2 ⟨hnd,by cases o.dst <;> simp,fun s hs s' hs' e=> ?_⟩
  subst e
  exact hdst' s hs' hs
 have hub:∀u∈us,u.bump=true∧u.s<σ.length:=by
  intro u hu
  rw [←hus] at hu
  rcases List.mem_append.1 hu with hu|hu
  ·rcases List.mem_append.1 hu with hu|hu
   ·obtain ⟨s,hs,rfl⟩:=List.mem_map.1 hu
    exact ⟨rfl,hgl s hs⟩
   ·refine ⟨(u2 u hu).1,bx3 u.s ?_⟩
    rw [←u1]
    exact List.mem_map_of_mem hu
  ·refine ⟨?_,hd u hu⟩
   unfold qbV at hu
   cases hdd:o.dst with
   |none=>rw [hdd] at hu; cases hu
   |some d=>rw [hdd] at hu; simp at hu; rw [hu]
 obtain ⟨at1,at2⟩:=qm0 us σ hsn hub
 let own':Nat→List Nat:=fun s=>if s∈o.dst.toList then bs else if s∈gone then [] else if s∈ios then (own s).take 1 else own s
 have oDst:∀d,o.dst=some d→own' d=bs:=fun d hd=>by simp [own',hd]
 have oGone:∀s∈gone,own' s=[]:=fun s hs=>by
  have:s∉o.dst.toList:=fun hm=>hdst' s hm (List.mem_append_left _ hs)
  simp only [own',if_neg this,if_pos hs]
 have oIos:∀s∈ios,own' s=(own s).take 1:=fun s hs=>by
  have h1:s∉o.dst.toList:=fun hm=>hdst' s hm (List.mem_append_right _ hs)
  have h2:s∉gone:=fun hm=>hn1.2.2 s hm s hs rfl
  simp only [own',if_neg h1,if_neg h2,if_pos hs]
 have oElse:∀s,s∉us.map (·.s)→own' s=own s:=fun s hs=>by
  rw [hslots] at hs
  simp only [List.mem_append,not_or] at hs
  simp only [own',if_neg hs.2,if_neg hs.1.1,if_neg hs.1.2]
 have bsAway:∀b∈bs,∀s,b∈own s→s∈gone:=by
  intro b hb s hs
  rcases (hbl b hb).1 with hgb|hfr
  ·obtain ⟨s',hs',k⟩:=hg b hgb
   have:=h.apart s s' b hs k
   subst this
   exact hs'
  ·have:=(h.mine s b hs).2
   omega
 have free:∀b,qlx w F g i bs b→b<w'.heap.size→(C.free w own b∨b∈inn∨(∃s,s∉gone++ios∧b∈own s)→C.free w own b∨b∈inn)→C.free w' own' b:=by
  rintro b ⟨hb1,hb2,hb3⟩ hlt hnot
  have hbase:C.base b:=by
   rcases hb1 with hb1|hb1|hb1
   ·rcases hF b hb1 with hf|hf|⟨s',hs',hf⟩
    ·exact hf.1
    ·obtain ⟨s',_,k⟩:=bx2 b hf
     exact .inr (h.mine s' b k).1
    ·exact .inr (h.mine s' b hf).1
   ·obtain ⟨s,_,k⟩:=hg b hb1
    exact .inr (h.mine s b k).1
   ·have:=h.kept.size
    exact .inr (.inr (by omega))
  refine ⟨hbase,hlt,fun s hs=> ?_⟩
  by_cases h1:s∈o.dst.toList
  ·simp only [own',if_pos h1] at hs
   exact hb2 hs
  by_cases h2:s∈gone
  ·simp only [own',if_neg h1,if_pos h2] at hs
   cases hs
  by_cases h3:s∈ios
  ·
   simp only [own',if_neg h1,if_neg h2,if_pos h3] at hs
   exact hb3 (hbf.first s h3 b hs)
  simp only [own',if_neg h1,if_neg h2,if_neg h3] at hs
  rcases hb1 with hb1|hb1|hb1
  ·rcases hnot (hF b hb1) with hf|hf
   ·exact hf.2.2 s hs
   ·obtain ⟨s',hs',k⟩:=bx2 b hf
    have:=h.apart s s' b hs k
    subst this
    exact h3 hs'
  ·obtain ⟨s',hs',k⟩:=hg b hb1
   have:=h.apart s s' b hs k
   subst this
   exact h2 hs'
  ·have:=(h.mine s b hs).2
   omega
 have conv:(RMs.flat D.rs=true∨∀b,qlx w F g i bs b→b<w'.heap.size→C.free w' own' b)∧(PMs.ioFlat D.ps=true∨∀b,qlx w F g i bs b→b<w'.heap.size→C.free w' own' b):=by
  rcases hflat with ⟨f1,f2⟩|hf
  ·exact ⟨.inl f1,.inl f2⟩
  ·have:∀b,qlx w F g i bs b→b<w'.heap.size→C.free w' own' b:=fun b hb hlt=>by
    refine free b hb hlt fun hor=> ?_
    rcases hb.1 with hFb|hgb|hfr
    ·exact hf b hFb
    ·obtain ⟨s,hs,k⟩:=hg b hgb
     rcases hor with hq|hq|⟨s',hs',k'⟩
     ·exact .inl hq
     ·exact .inr hq
     ·have:=h.apart s s' b k k'
      subst this
      exact (hs' (List.mem_append_left _ hs)).elim
    ·rcases hor with hq|hq|⟨s',hs',k'⟩
     ·exact .inl hq
     ·exact .inr hq
     ·have:=(h.mine s' b k').2
      omega
   exact ⟨.inr this,.inr this⟩
 have hres':=qaW.turn D.rs (F':=C.free w' own') conv.1 hres
 have hios':=qcV.turn D.ps (F':=C.free w' own') conv.2 hios
 obtain ⟨_,u2'⟩:=qeW (σ:=σ) (tm:=a.tmps) (own:=own) D.ps hbx hios'
 refine hK _ _ own' (qhw o a _) ?_
 have htmps:∀s,s∉o.dst.toList→(a.put o.dst (qe4 vs)).tmps.getD s undef=a.tmps.getD s undef:=fun s hs=>by
  cases hdd:o.dst with
  |none=>rfl
  |some d=>
   rw [hdd] at hs
   exact qb1 _ _ (by simpa using hs)
 have hmem:∀s,s∈us.map (·.s)→(s∈gone∨s∈ios)∨s∈o.dst.toList:=fun s hs=>by
  rw [hslots] at hs
  rcases List.mem_append.1 hs with hs|hs
  ·exact .inl (List.mem_append.1 hs)
  ·exact .inr hs
 have slot:∀s,s∈us.map (·.s)→(qt σ s).1<(qt (qr σ us) s).1∧qaF (sit C (qr σ us) (a.put o.dst (qe4 vs)).tmps w' own') (qt (qr σ us) s).2 ((a.put o.dst (qe4 vs)).tmps.getD s undef) (own' s)∧(qt (qr σ us) s).2.mentions=[]:=by
  intro s hs
  obtain ⟨u,hu,rfl⟩:=List.mem_map.1 hs
  rw [at1 u hu]
  refine ⟨Nat.lt_succ_self _,?_⟩
  have hu0:=hu
  rw [←hus] at hu
  rcases List.mem_append.1 hu with hu|hu
  ·rcases List.mem_append.1 hu with hu|hu
   ·obtain ⟨s,hs,rfl⟩:=List.mem_map.1 hu
    exact ⟨trivial,rfl⟩
   ·have hsi:u.s∈ios:=by rw [←u1]; exact List.mem_map_of_mem hu
    rcases (u2' u hu).2 with ⟨t,z,b,n1,cs,te,q1,q2,q3,q4,q5,q6⟩|⟨et,e,xs,q1,q2,q3⟩
    ·simp only [q1]
     refine ⟨⟨b,cs,[],te,?_,q5,⟨rfl,q6⟩,?_⟩,rfl⟩
     ·rw [htmps _ (fun hm=>hdst' _ hm (List.mem_append_right _ hsi))]
      exact q4
     ·rw [oIos _ hsi,q3]; rfl
    ·simp only [q1]
     refine ⟨?_,rfl⟩
     show q7 w' (C.free w' own') et e xs _ (own' u.s)
     rw [htmps _ (fun hm=>hdst' _ hm (List.mem_append_right _ hsi)),oIos _ hsi,q3]
     exact q2
  ·unfold qbV at hu
   cases hdd:o.dst with
   |none=>rw [hdd] at hu; cases hu
   |some d=>
    rw [hdd] at hu
    have hu:u=⟨d,true,qix D.rs y.1⟩:=by simpa using hu
    have hdl:d<σ.length:=by have:=(hub u hu0).2; rw [hu] at this; exact this
    subst hu
    refine ⟨?_,qmz _ _⟩
    show qaF _ _ ((a.put (some d) (qe4 vs)).tmps.getD d undef) (own' d)
    rw [oDst d hdd,show (a.put (some d) (qe4 vs)).tmps.getD d undef=qe4 vs from qdY _ _ (by rw [h.size]; exact hdl)]
    exact qsd (X:=sit C (qr σ us) _ w' own') D.rs hres'
 refine h.update (fun s=>s∈us.map (·.s)) (qF _ _) (by cases o.dst <;> simp [Act.put]) ?_ (fun s hs=> .inl (slot s hs).1) ?_ ?_ ?_ ?_ (fun s hs=>(slot s hs).2.1) (fun s hs m hm=>by rw [(slot s hs).2.2] at hm; cases hm)
 ·intro s hs
  refine ⟨at2 s hs,htmps s fun hm=>hs ?_,oElse s hs⟩
  rw [hslots]
  exact List.mem_append_right _ hm
 ·refine hkept.mono fun k hk=> ?_
  obtain ⟨s,hs,hb⟩:=gi k hk
  exact ⟨s,by rw [hslots]; exact List.mem_append_left _ hs,hb⟩
 ·intro s hs
  obtain ⟨u,hu,rfl⟩:=List.mem_map.1 hs
  exact (hub u hu).2
 ·intro s hs
  rcases hmem s hs with (hm|hm)|hm
  ·rw [oGone s hm]
   exact ⟨fun b hb=>(by cases hb),List.nodup_nil⟩
  ·rw [oIos s hm]
   exact ⟨fun b hb=> .inr ⟨s,hs,List.mem_of_mem_take hb⟩,(h.nodup s).sublist (List.take_sublist _ _)⟩
  ·rw [oDst s (by simpa using hm)]
   refine ⟨fun b hb=> ?_,hbn⟩
   rcases (hbl b hb).1 with hgb|hfr
   ·obtain ⟨s',hs',k⟩:=hg b hgb
    exact .inr ⟨s',by rw [hslots]; exact List.mem_append_left _ (List.mem_append_left _ hs'),k⟩
   ·exact .inl ⟨hfr,(hbl b hb).2⟩
 ·intro s s' b hs hs' hb hb'
  have sub:∀s,s∈us.map (·.s)→s∉o.dst.toList→b∈own' s→b∈own s∧s∈ios:=by
   intro s hs hnd hb
   rcases hmem s hs with (hm|hm)|hm
   ·rw [oGone s hm] at hb; cases hb
   ·rw [oIos s hm] at hb
    exact ⟨List.mem_of_mem_take hb,hm⟩
   ·exact (hnd hm).elim
  have cross:∀s s',s∈o.dst.toList→s'∈us.map (·.s)→s'∉o.dst.toList→b∈own' s→b∈own' s'→False:=by
   intro s s' hd hs' hnd hb hb'
   rw [oDst s (by simpa using hd)] at hb
   obtain ⟨k1,k2⟩:=sub s' hs' hnd hb'
   exact hn1.2.2 s' (bsAway b hb s' k1) s' k2 rfl
  by_cases h1:s∈o.dst.toList <;> by_cases h2:s'∈o.dst.toList
  ·have e1:o.dst=some s:=by simpa using h1
   have e2:o.dst=some s':=by simpa using h2
   rw [e1] at e2
   injection e2
  ·exact (cross s s' h1 hs' h2 hb hb').elim
  ·exact (cross s' s h2 hs h1 hb' hb).elim
  ·exact h.apart s s' b (sub s hs h1 hb).1 (sub s' hs' h2 hb').1
end
end Go.Vi
