import Derived.Test.YtnlkfgdojfijpaaGreatDoorViXB
import Derived.MapKept
import Derived.Deep.LoopGhost
import Derived.Orders
import Derived.Test.YtnlkfgdojfijpaaGreatDoorViXA
set_option linter.unusedVariables false
set_option linter.unusedSimpArgs false
set_option linter.unnecessarySimpa false
set_option linter.unusedSectionVars false
namespace Go.Vi
open Go.RowKit
section
variable {C:Ctx} {E:Env} {σ:St} {tm:Array Value} {a:Act} {w w':World} {own:Nat→List Nat} {o:Oper} {p:qh5} [Tabbed E C]
theorem qnF:∀(us:List U) (σ:St),(us.map (·.s)).Nodup→(∀u∈us,u.bump=true∧u.s<σ.length)→(∀u∈us,qA (qv σ us) u.s=((qA σ u.s).1+1,u.a))∧∀s,s∉us.map (·.s)→qA (qv σ us) s=qA σ s
 |[],σ,_,_=>⟨fun u hu=>(by cases hu),fun _ _=>rfl⟩
 |u::us,σ,hn,hb=>by
  have hn':=List.nodup_cons.1 hn
  obtain ⟨h1,h2⟩:=qnF us (qX σ u) hn'.2 (fun v hv=>⟨(hb v (List.mem_cons_of_mem _ hv)).1,by rw [qao]; exact (hb v (List.mem_cons_of_mem _ hv)).2⟩)
  obtain ⟨b1,b2⟩:=hb u List.mem_cons_self
  refine ⟨fun v hv=> ?_,fun s hs=> ?_⟩
  ·rcases List.mem_cons.1 hv with rfl|hv
   ·show qA (qv (qX σ v) us) v.s=_
    rw [h2 _ hn'.1,qT σ v b2,b1]
    rfl
   ·show qA (qv (qX σ u) us) v.s=_
    rw [h1 v hv]
    have hne:v.s≠u.s:=fun e=>by
     have hm:v.s∈us.map (·.s):=List.mem_map_of_mem hv
     rw [e] at hm
     exact hn'.1 hm
    rw [qz _ _ hne]
  ·have hs':s≠u.s∧s∉us.map (·.s):=by simpa using hs
   show qA (qv (qX σ u) us) s=_
   rw [h2 s hs'.2,qz _ _ hs'.1]
def qsp (nw:Nat→List Nat) (s:Nat) (l:List Nat) (t:Nat):List Nat:=if t=s then l else nw t
theorem qdK {nw:Nat→List Nat} {s:Nat} {l:List Nat} :qsp nw s l s=l:=if_pos rfl
theorem qcC {nw:Nat→List Nat} {s t:Nat} {l:List Nat} (h:t≠s):qsp nw s l t=nw t:=if_neg h
theorem qeJ {F:Nat→Prop} :(ps:List PM)→ {y:PMs.ioDen ps} → {as:List Value} → {ss i inn js:List Nat} →qc1 σ tm own ps as ss i inn→qdm w F ps y as i js→ss.Nodup→(i++js).Nodup→
  (qdF ps y ss).map (·.s)=ss∧(∀s∈ss,s<σ.length)∧∃nw:Nat→List Nat,(∀u∈qdF ps y ss,u.bump=true∧u.a.mentions=[]∧∀X:Sit,X.w=w→(PMs.ioFlat ps=true∨∀b,F b→b<w.heap.size→X.F b)→qaO X u.a (tm.getD u.s undef) (nw u.s))∧
   (∀s∈ss,(nw s).Nodup∧∀b∈nw s,b∈i++js)∧∀s∈ss,∀s'∈ss,∀b,b∈nw s→b∈nw s'→s=s'
 |[],_,_,_,_,_,_,⟨h1,_⟩,_,_,_=>by subst h1; exact ⟨rfl,fun s hs=>(by cases hs),fun _=>[],fun u hu=>(by cases hu),fun s hs=>(by cases hs),fun s hs=>(by cases hs)⟩
 | .io t::ps,y,as,_,_,_,js,⟨s,ss,b,i2,n1,n2,h0,h1,h2,h3,h4,h5,h6⟩,⟨b',i2',cs,te,k1,k2,k3,k4⟩,hn,hij=>by
  subst h0
  rw [h1] at k1
  injection k1 with e1 e2
  subst e1; subst e2
  subst h1
  have hn:=List.nodup_cons.1 hn
  have hij:(b::(i2++js)).Nodup:=hij
  have hij:=List.nodup_cons.1 hij
  obtain ⟨g1,g0,nw,g2,g3,g4⟩:=qeJ (ss:=ss) ps h6 k4 hn.2 hij.2
  have ne:∀s'∈ss,s'≠s:=fun s' hs' e=>hn.1 (e ▸ hs')
  refine ⟨by simp [qdF,g1],fun s' hs'=> ?_,qsp nw s [b],fun u hu=> ?_,fun s' hs'=> ?_,fun s1 hs1 s2 hs2 c hc1 hc2=> ?_⟩
  ·rcases List.mem_cons.1 hs' with rfl|hs'
   ·exact h5
   ·exact g0 s' hs'
  ·rcases List.mem_cons.1 hu with rfl|hu
   ·refine ⟨rfl,rfl,fun X hw hF=> ?_⟩
    subst hw
    simp only [qdK]
    refine ⟨b,cs,[],te,h4,k2,⟨rfl,?_⟩,rfl⟩
    rcases hF with hF|hF
    ·simp only [PMs.ioFlat,Bool.and_eq_true] at hF
     exact k3.flat hF.1
    ·exact k3.keep fun b hb hlt=>⟨hF b hb hlt,hlt,rfl⟩
   ·rw [qcC (ne u.s (by rw [←g1]; exact List.mem_map_of_mem hu))]
    obtain ⟨q1,q2,q3⟩:=g2 u hu
    exact ⟨q1,q2,fun X hw hF=>q3 X hw (hF.imp (fun hF=>by simp only [PMs.ioFlat,Bool.and_eq_true] at hF; exact hF.2) id)⟩
  ·rcases List.mem_cons.1 hs' with rfl|hs'
   ·rw [qdK]; simp
   ·rw [qcC (ne s' hs')]
    exact ⟨(g3 s' hs').1,fun c hc=>List.mem_cons_of_mem _ ((g3 s' hs').2 c hc)⟩
  ·rcases List.mem_cons.1 hs1 with rfl|hs3 <;> rcases List.mem_cons.1 hs2 with rfl|hs4
   ·rfl
   ·rw [qdK,List.mem_singleton] at hc1
    rw [qcC (ne s2 hs4)] at hc2
    subst hc1
    exact (hij.1 ((g3 s2 hs4).2 _ hc2)).elim
   ·rw [qdK,List.mem_singleton] at hc2
    rw [qcC (ne s1 hs3)] at hc1
    subst hc2
    exact (hij.1 ((g3 s1 hs3).2 _ hc1)).elim
   ·rw [qcC (ne s1 hs3)] at hc1
    rw [qcC (ne s2 hs4)] at hc2
    exact g4 s1 hs3 s2 hs4 c hc1 hc2
 | .iob t::ps,y,as,_,_,_,_,⟨s,ss,b,i2,n1,n2,m,h0,h1,h2,h3,h4,h5,h6⟩,⟨b',i2',j1,j2,cs,te,k1,k0,k2,k3,k4⟩,hn,hij=>by
  subst h0
  rw [h1] at k1
  injection k1 with e1 e2
  subst e1; subst e2
  subst h1; subst k0
  have hn:=List.nodup_cons.1 hn
  have hp:((b::i2)++(j1++j2)).Perm ((b::j1)++(i2++j2)):=List.perm_iff_count.2 fun a=>by simp only [List.count_append,List.count_cons]; omega
  have hij:=List.nodup_append.1 (hp.nodup_iff.1 hij)
  obtain ⟨g1,g0,nw,g2,g3,g4⟩:=qeJ (ss:=ss) ps h6 k4 hn.2 hij.2.1
  have ne:∀s'∈ss,s'≠s:=fun s' hs' e=>hn.1 (e ▸ hs')
  refine ⟨by simp [qdF,g1],fun s' hs'=> ?_,qsp nw s (b::j1),fun u hu=> ?_,fun s' hs'=> ?_,fun s1 hs1 s2 hs2 c hc1 hc2=> ?_⟩
  ·rcases List.mem_cons.1 hs' with rfl|hs'
   ·exact h5
   ·exact g0 s' hs'
  ·rcases List.mem_cons.1 hu with rfl|hu
   ·refine ⟨rfl,rfl,fun X hw hF=> ?_⟩
    subst hw
    simp only [qdK]
    refine ⟨b,cs,j1,te,h4,k2,?_,rfl⟩
    rcases hF with hF|hF
    ·simp only [PMs.ioFlat,Bool.and_eq_true] at hF
     exact k3.flat t hF.1
    ·exact k3.keep (fun b hb hlt=>⟨hF b hb hlt,hlt,rfl⟩) (fun _ _ _=>rfl)
   ·rw [qcC (ne u.s (by rw [←g1]; exact List.mem_map_of_mem hu))]
    obtain ⟨q1,q2,q3⟩:=g2 u hu
    exact ⟨q1,q2,fun X hw hF=>q3 X hw (hF.imp (fun hF=>by simp only [PMs.ioFlat,Bool.and_eq_true] at hF; exact hF.2) id)⟩
  ·rcases List.mem_cons.1 hs' with rfl|hs'
   ·rw [qdK]
    exact ⟨hij.1,fun c hc=>hp.mem_iff.2 (List.mem_append_left _ hc)⟩
   ·rw [qcC (ne s' hs')]
    exact ⟨(g3 s' hs').1,fun c hc=>hp.mem_iff.2 (List.mem_append_right _ ((g3 s' hs').2 c hc))⟩
  ·rcases List.mem_cons.1 hs1 with rfl|hs3 <;> rcases List.mem_cons.1 hs2 with rfl|hs4
   ·rfl
   ·rw [qdK] at hc1
    rw [qcC (ne s2 hs4)] at hc2
    exact (hij.2.2 c hc1 c ((g3 s2 hs4).2 _ hc2) rfl).elim
   ·rw [qdK] at hc2
    rw [qcC (ne s1 hs3)] at hc1
    exact (hij.2.2 c hc2 c ((g3 s1 hs3).2 _ hc1) rfl).elim
   ·rw [qcC (ne s1 hs3)] at hc1
    rw [qcC (ne s2 hs4)] at hc2
    exact g4 s1 hs3 s2 hs4 c hc1 hc2
 | .ior et e::ps,y,as,_,_,_,js,⟨s,ss,i1,i2,h0,h1,h2,h3,h4,h5,h6⟩,⟨i1',i2',k1,k2,k3⟩,hn,hij=>by
  subst h0
  have e1:i1'=i1:=by
   obtain ⟨cells,_,hb,_⟩:=k2
   rw [hb,h4]
  subst e1
  rw [h1] at k1
  have e2:=List.append_cancel_left k1
  subst e2
  subst h1
  have hn:=List.nodup_cons.1 hn
  rw [List.append_assoc] at hij
  have hij:=List.nodup_append.1 hij
  obtain ⟨g1,g0,nw,g2,g3,g4⟩:=qeJ (ss:=ss) ps h6 k3 hn.2 hij.2.1
  have ne:∀s'∈ss,s'≠s:=fun s' hs' e=>hn.1 (e ▸ hs')
  refine ⟨by simp [qdF,g1],fun s' hs'=> ?_,qsp nw s i1',fun u hu=> ?_,fun s' hs'=> ?_,fun s1 hs1 s2 hs2 c hc1 hc2=> ?_⟩
  ·rcases List.mem_cons.1 hs' with rfl|hs'
   ·exact h5
   ·exact g0 s' hs'
  ·rcases List.mem_cons.1 hu with rfl|hu
   ·refine ⟨rfl,rfl,fun X hw hF=> ?_⟩
    subst hw
    show qak _ _ et e y.1 (tm.getD s undef) (qsp nw s i1' s)
    rw [qdK]
    rw [h3]
    rcases hF with hF|hF
    ·simp only [PMs.ioFlat,Bool.and_eq_true] at hF
     obtain ⟨cells,q1,q2,q3⟩:=k2
     exact ⟨cells,q1,q2,fun i x hi=>(q3 i x hi).flat hF.1⟩
    ·exact qak.keep (fun b hb hlt=>⟨hF b hb hlt,hlt,rfl⟩) (fun _ _ _=>rfl) k2
   ·rw [qcC (ne u.s (by rw [←g1]; exact List.mem_map_of_mem hu))]
    obtain ⟨q1,q2,q3⟩:=g2 u hu
    exact ⟨q1,q2,fun X hw hF=>q3 X hw (hF.imp (fun hF=>by simp only [PMs.ioFlat,Bool.and_eq_true] at hF; exact hF.2) id)⟩
  ·rw [List.append_assoc]
   rcases List.mem_cons.1 hs' with rfl|hs'
   ·rw [qdK]
    exact ⟨hij.1,fun c hc=>List.mem_append_left _ hc⟩
   ·rw [qcC (ne s' hs')]
    exact ⟨(g3 s' hs').1,fun c hc=>List.mem_append_right _ ((g3 s' hs').2 c hc)⟩
  ·rcases List.mem_cons.1 hs1 with rfl|hs3 <;> rcases List.mem_cons.1 hs2 with rfl|hs4
   ·rfl
   ·rw [qdK] at hc1
    rw [qcC (ne s2 hs4)] at hc2
    exact (hij.2.2 c hc1 c ((g3 s2 hs4).2 _ hc2) rfl).elim
   ·rw [qdK] at hc2
    rw [qcC (ne s1 hs3)] at hc1
    exact (hij.2.2 c hc2 c ((g3 s1 hs3).2 _ hc1) rfl).elim
   ·rw [qcC (ne s1 hs3)] at hc1
    rw [qcC (ne s2 hs4)] at hc2
    exact g4 s1 hs3 s2 hs4 c hc1 hc2
 | .val _::ps,y,as,ss,_,_,_,h1,h2,hn,hij=>by
  have:=qeJ (ss:=ss) ps h1 (y:=y) h2 hn hij
  simpa [qdF,PMs.ioFlat] using this
 | .own _ _::ps,y,as,ss,_,_,_,h1,h2,hn,hij=>by
  have:=qeJ (ss:=ss) ps h1 (y:=y) h2 hn hij
  simpa [qdF,PMs.ioFlat] using this
 | .nil _ _::ps,y,as,ss,_,_,_,h1,h2,hn,hij=>by
  have:=qeJ (ss:=ss) ps h1 (y:=y) h2 hn hij
  simpa [qdF,PMs.ioFlat] using this
 | .rd _::ps,y,as,ss,_,_,_,h1,h2,hn,hij=>by
  have:=qeJ (ss:=ss) ps h1 (y:=y) h2 hn hij
  simpa [qdF,PMs.ioFlat] using this
 | .fn _ _::ps,y,as,ss,_,_,_,h1,h2,hn,hij=>by
  have:=qeJ (ss:=ss) ps h1 (y:=y) h2 hn hij
  simpa [qdF,PMs.ioFlat] using this
theorem qdr:(ps:List PM)→ {y:PMs.ioDen ps} → {ss:List Nat} →∀u∈qdF ps y ss,u.bump=true
 |[],_,_,u,hu=>by cases hu
 | .io t::ps,_,[],u,hu=>by cases hu
 | .io t::ps,_,s::ss,u,hu=>by
  rcases List.mem_cons.1 hu with rfl|hu
  ·rfl
  ·exact qdr ps u hu
 | .iob t::ps,_,[],u,hu=>by cases hu
 | .iob t::ps,_,s::ss,u,hu=>by
  rcases List.mem_cons.1 hu with rfl|hu
  ·rfl
  ·exact qdr ps u hu
 | .ior _ _::ps,_,[],u,hu=>by cases hu
 | .ior _ _::ps,_,s::ss,u,hu=>by
  rcases List.mem_cons.1 hu with rfl|hu
  ·rfl
  ·exact qdr ps u hu
 | .val _::ps,y,ss,u,hu=>qdr ps (y:=y) (ss:=ss) u (by simpa [qdF] using hu)
 | .own _ _::ps,y,ss,u,hu=>qdr ps (y:=y) (ss:=ss) u (by simpa [qdF] using hu)
 | .nil _ _::ps,y,ss,u,hu=>qdr ps (y:=y) (ss:=ss) u (by simpa [qdF] using hu)
 | .rd _::ps,y,ss,u,hu=>qdr ps (y:=y) (ss:=ss) u (by simpa [qdF] using hu)
 | .fn _ _::ps,y,ss,u,hu=>qdr ps (y:=y) (ss:=ss) u (by simpa [qdF] using hu)
theorem qut {X:Sit} (rs:List RM) {y:RMs.den rs} {vs:List Value} {bs:List Nat} (h:qa7 X.w X.F (qdA rs y) vs bs):qaO X (qjo rs y) (qfg vs) bs:=by
 match rs,y,h with
 |[],y,h=>
  obtain ⟨h1,h2⟩:=h
  subst h1
  exact ⟨[],rfl,rfl,h2⟩
 |[.val t],y,⟨v,r,b1,b2,h1,h2,h3,h4,h5⟩=>
  subst h4
  rw [h1,h2,h5,h3.1]
  exact ⟨rfl,h3.2⟩
 |[.nz e],y,⟨v,r,b1,b2,h1,h2,h3,h4,h5⟩=>
  subst h4
  rw [h1,h2,h5,h3.1]
  exact ⟨rfl,h3.2⟩
 |[.own et e],y,⟨v,r,b1,b2,h1,h2,h3,h4,h5⟩=>
  subst h4
  rw [h1,h2,h5,List.append_nil]
  exact h3
 |r1::r2::rs,y,h=>
  have e1:qjo (r1::r2::rs) y= .tup (qdA (r1::r2::rs) y):=by unfold qjo; split <;> first|rfl|(rename_i h _; cases h)
  rw [e1]
  refine ⟨vs,?_,h⟩
  cases r1 <;> cases r2 <;> (obtain ⟨v,r,b1,b2,h1,h2,h3,v2,r2',b3,b4,h4,_⟩:=h; subst h1; subst h4; rfl)
theorem qns (rs:List RM) (y:RMs.den rs):(qjo rs y).mentions=[]:=by
 unfold qjo
 split <;> rfl
theorem qmQ (h:qas C σ a.tmps w own) {D:qs} {f:Nat} {y:RMs.den D.rs×PMs.ioDen D.ps} {as:Array Value} {gone ios g i inn:List Nat} {al:List Value} {F:Nat→Prop}
  (hcall:(∀b∈g++i,¬F b∧b<w.heap.size)→(g++i).Nodup→Calls C.P f as w fun e w'=>∃v,e= .returned v∧D.Post w F al g i y v w') (hgw:∀b∈g++(i++inn),∃s∈gone++ios,b∈own s) (hgn:(gone++ios).Nodup→(g++(i++inn)).Nodup) (hgl:∀s∈gone,s<σ.length) (hbx:qc1 σ a.tmps own D.ps al ios i inn)
  (hF:∀b,F b→C.free w own b∨b∈inn∨(∃s,s∉gone++ios∧b∈own s))
  (hflat:(RMs.flat D.rs=true∧PMs.ioFlat D.ps=true)∨∀b,F b→C.free w own b∨b∈inn)
  (hnd:(gone++ios).Nodup) (hdst:∀d,o.dst=some d→d∉gone++ios) (hd:∀u∈qcl o (qjo D.rs y.1),u.s<σ.length)
  (hr:(execOp a.eval o).run C.P w= .ok (.enter f as) w):
  qes C o a w (qv σ (gone.map (fun s=>⟨s,true,.undef⟩)++qdF D.ps y.2 ios++qcl o (qjo D.rs y.1))):=by
 have hn1:=List.nodup_append.1 hnd
 have hgii:=hgn hnd
 have hgi:(g++i).Nodup:=by
  rw [←List.append_assoc] at hgii
  exact (List.nodup_append.1 hgii).1
 have gi:∀b∈g++i,∃s∈gone++ios,b∈own s:=fun b hb=>hgw b (by
  rcases List.mem_append.1 hb with hb|hb
  ·exact List.mem_append_left _ hb
  ·exact List.mem_append_right _ (List.mem_append_left _ hb))
 have bx2:∀b∈inn,∃s∈gone++ios,b∈own s:=fun b hb=>hgw b (List.mem_append_right _ (List.mem_append_right _ hb))
 have hg:∀b∈g,∃s∈gone++ios,b∈own s:=fun b hb=>gi b (List.mem_append_left _ hb)
 have bn2:∀b∈g++i,b∉inn:=fun b hb hm=>by
  rw [←List.append_assoc] at hgii
  exact (List.nodup_append.1 hgii).2.2 b hb b hm rfl
 have hpre:∀b∈g++i,¬F b∧b<w.heap.size:=by
  intro b hb
  obtain ⟨s,hs,hbs⟩:=gi b hb
  refine ⟨fun hFb=> ?_,(h.mine s b hbs).2⟩
  rcases hF b hFb with hf|hf|⟨s',hs',hf⟩
  ·exact hf.2.2 s hbs
  ·exact bn2 b hb hf
  ·have:=h.apart s s' b hbs hf
   subst this
   exact hs' hs
 intro K Q hK
 unfold Oper.wp
 rw [hr]
 refine Calls.mono (hcall hpre hgi) ?_
 rintro e w' ⟨v,rfl,vs,bs,js,rfl,hbjn,hbl,hres,hios,hkept⟩
 have hbjn':=List.nodup_append.1 hbjn
 have hbn:=hbjn'.1
 have hbi:∀b∈bs++js,b∉i:=fun b hb hi=>by
  rcases (hbl b hb).1 with h1|h1
  ·exact (List.nodup_append.1 hgi).2.2 b h1 b hi rfl
  ·have:=(hpre b (List.mem_append_right _ hi)).2
   omega
 have hijn:(i++js).Nodup:=List.nodup_append.2 ⟨(List.nodup_append.1 hgi).2.1,hbjn'.2.1,fun b hb b' hb' e=>by
  subst e
  exact hbi b (List.mem_append_right _ hb') hb⟩
 obtain ⟨u1,bx3,_,_⟩:=qeJ (σ:=σ) (tm:=a.tmps) (own:=own) D.ps hbx hios hn1.2.1 hijn
 generalize hus:gone.map (fun s=>(⟨s,true,.undef⟩:U))++qdF D.ps y.2 ios++qcl o (qjo D.rs y.1)=us at hK
 have hslots:us.map (·.s)=gone++ios++o.dst.toList:=by
  rw [←hus,List.map_append,List.map_append,u1]
  congr 1
  ·congr 1
   rw [List.map_map]
   exact List.map_id _
  ·unfold qcl
   cases o.dst <;> rfl
 have hdst':∀d∈o.dst.toList,d∉gone++ios:=fun d hd=>hdst d (by simpa using hd)
 have hsn:(us.map (·.s)).Nodup:=by
  rw [hslots]
  refine List.nodup_append.2 ⟨hnd,by cases o.dst <;> simp,fun s hs s' hs' e=> ?_⟩
  subst e
  exact hdst' s hs' hs
 have hub:∀u∈us,u.bump=true∧u.s<σ.length:=by
  intro u hu
  rw [←hus] at hu
  rcases List.mem_append.1 hu with hu|hu
  ·rcases List.mem_append.1 hu with hu|hu
   ·obtain ⟨s,hs,rfl⟩:=List.mem_map.1 hu
    exact ⟨rfl,hgl s hs⟩
   ·refine ⟨qdr D.ps u hu,bx3 u.s ?_⟩
    rw [←u1]
    exact List.mem_map_of_mem hu
  ·refine ⟨?_,hd u hu⟩
   unfold qcl at hu
   cases hdd:o.dst with
   |none=>rw [hdd] at hu; cases hu
   |some d=>rw [hdd] at hu; simp at hu; rw [hu]
 obtain ⟨at1,at2⟩:=qnF us σ hsn hub
 have bsAway:∀b∈bs++js,∀s,b∈own s→s∈gone++ios:=by
  intro b hb s hs
  rcases (hbl b hb).1 with hgb|hfr
  ·obtain ⟨s',hs',k⟩:=hg b hgb
   have:=h.apart s s' b hs k
   subst this
   exact hs'
  ·have:=(h.mine s b hs).2
   omega
 have free:∀own':Nat→List Nat,(∀s b,b∈own' s→b∈bs++js∨b∈i∨(b∈own s∧s∉gone++ios))→∀b,qjH w F g i (bs++js) b→b<w'.heap.size→(C.free w own b∨b∈inn∨(∃s,s∉gone++ios∧b∈own s)→C.free w own b∨b∈inn)→C.free w' own' b:=by
  rintro own' hown' b ⟨hb1,hb2,hb3⟩ hlt hnot
  have hbase:C.base b:=by
   rcases hb1 with hb1|hb1|hb1
   ·rcases hF b hb1 with hf|hf|⟨s',hs',hf⟩
    ·exact hf.1
    ·obtain ⟨s',_,k⟩:=bx2 b hf
     exact .inr (h.mine s' b k).1
    ·exact .inr (h.mine s' b hf).1
   ·obtain ⟨s,_,k⟩:=hg b hb1
    exact .inr (h.mine s b k).1
   ·have:=h.kept.size
    exact .inr (.inr (by omega))
  refine ⟨hbase,hlt,fun s hs=> ?_⟩
  rcases hown' s b hs with h1|h1|⟨h1,h2⟩
  ·exact hb2 h1
  ·exact hb3 h1
  ·rcases hb1 with hb1|hb1|hb1
   ·rcases hnot (hF b hb1) with hf|hf
    ·exact hf.2.2 s h1
    ·obtain ⟨s',hs',k⟩:=bx2 b hf
     have:=h.apart s s' b h1 k
     subst this
     exact h2 hs'
   ·obtain ⟨s',hs',k⟩:=hg b hb1
    have:=h.apart s s' b h1 k
    subst this
    exact h2 hs'
   ·have:=(h.mine s b h1).2
    omega
 have conv:∀own':Nat→List Nat,(∀s b,b∈own' s→b∈bs++js∨b∈i∨(b∈own s∧s∉gone++ios))→(RMs.flat D.rs=true∨∀b,qjH w F g i (bs++js) b→b<w'.heap.size→C.free w' own' b)∧(PMs.ioFlat D.ps=true∨∀b,qjH w F g i (bs++js) b→b<w'.heap.size→C.free w' own' b):=by
  intro own' hown'
  rcases hflat with ⟨f1,f2⟩|hf
  ·exact ⟨.inl f1,.inl f2⟩
  ·have:∀b,qjH w F g i (bs++js) b→b<w'.heap.size→C.free w' own' b:=fun b hb hlt=>by
    refine free own' hown' b hb hlt fun hor=> ?_
    rcases hb.1 with hFb|hgb|hfr
    ·exact hf b hFb
    ·obtain ⟨s,hs,k⟩:=hg b hgb
     rcases hor with hq|hq|⟨s',hs',k'⟩
     ·exact .inl hq
     ·exact .inr hq
     ·have:=h.apart s s' b k k'
      subst this
      exact (hs' hs).elim
    ·rcases hor with hq|hq|⟨s',hs',k'⟩
     ·exact .inl hq
     ·exact .inr hq
     ·have:=(h.mine s' b k').2
      omega
   exact ⟨.inr this,.inr this⟩
 have hboth:∃own':Nat→List Nat,(∀d,o.dst=some d→own' d=bs)∧(∀s∈gone,own' s=[])∧(∀s,s∉us.map (·.s)→own' s=own s)∧(∀s∈ios,(own' s).Nodup∧∀b∈own' s,b∈i++js)∧(∀s∈ios,∀s'∈ios,∀b,b∈own' s→b∈own' s'→s=s')∧
   (∀u∈qdF D.ps y.2 ios,u.bump=true∧u.a.mentions=[]∧∀X:Sit,X.w=w'→X.F=C.free w' own'→qaO X u.a (a.tmps.getD u.s undef) (own' u.s))∧qa7 w' (C.free w' own') (qdA D.rs y.1) vs bs:=by
  have mk:∀nw:Nat→List Nat,(∀s∈ios,(nw s).Nodup∧∀b∈nw s,b∈i++js)→∃own':Nat→List Nat,(∀d,o.dst=some d→own' d=bs)∧(∀s∈gone,own' s=[])∧(∀s∈ios,own' s=nw s)∧(∀s,s∉us.map (·.s)→own' s=own s)∧(∀s b,b∈own' s→b∈bs++js∨b∈i∨(b∈own s∧s∉gone++ios)):=by
   intro nw hnw
   refine ⟨fun s=>if s∈o.dst.toList then bs else if s∈gone then [] else if s∈ios then nw s else own s,fun d hd=>by simp [hd],fun s hs=> ?_,fun s hs=> ?_,fun s hs=> ?_,fun s b hb=> ?_⟩
   ·have:s∉o.dst.toList:=fun hm=>hdst' s hm (List.mem_append_left _ hs)
    simp only [if_neg this,if_pos hs]
   ·have h1:s∉o.dst.toList:=fun hm=>hdst' s hm (List.mem_append_right _ hs)
    have h2:s∉gone:=fun hm=>hn1.2.2 s hm s hs rfl
    simp only [if_neg h1,if_neg h2,if_pos hs]
   ·rw [hslots] at hs
    simp only [List.mem_append,not_or] at hs
    simp only [if_neg hs.2,if_neg hs.1.1,if_neg hs.1.2]
   ·simp only at hb
    split at hb
    ·exact .inl (List.mem_append_left _ hb)
    ·split at hb
     ·cases hb
     ·rename_i h2
      split at hb
      ·rename_i h3
       rcases List.mem_append.1 ((hnw s h3).2 b hb) with hb|hb
       ·exact .inr (.inl hb)
       ·exact .inl (List.mem_append_right _ hb)
      ·rename_i h3
       exact .inr (.inr ⟨hb,fun hm=>(List.mem_append.1 hm).elim h2 h3⟩)
  obtain ⟨_,_,nw,v2,v3,v4⟩:=qeJ (σ:=σ) (tm:=a.tmps) (own:=own) D.ps hbx hios hn1.2.1 hijn
  obtain ⟨own',o1,o2,o3,o4,o5⟩:=mk nw v3
  have hcv:=conv own' o5
  refine ⟨own',o1,o2,o4,fun s hs=>by rw [o3 s hs]; exact v3 s hs,fun s hs s' hs' b hb hb'=>v4 s hs s' hs' b (by rw [←o3 s hs]; exact hb) (by rw [←o3 s' hs']; exact hb'),fun u hu=> ?_,qa7.turn D.rs hcv.1 hres⟩
  have hus':u.s∈ios:=by rw [←u1]; exact List.mem_map_of_mem hu
  rw [o3 _ hus']
  refine ⟨(v2 u hu).1,(v2 u hu).2.1,fun X hw hF'=> ?_⟩
  exact (v2 u hu).2.2 X hw (by rw [hF']; exact hcv.2)
 obtain ⟨own',oDst,oGone,oElse,oIos,oAp,u2',hres'⟩:=hboth
 refine hK _ _ own' (qiy o a _) ?_
 have htmps:∀s,s∉o.dst.toList→(a.put o.dst (qfg vs)).tmps.getD s undef=a.tmps.getD s undef:=fun s hs=>by
  cases hdd:o.dst with
  |none=>rfl
  |some d=>
   rw [hdd] at hs
   exact qcz _ _ (by simpa using hs)
 have hmem:∀s,s∈us.map (·.s)→(s∈gone∨s∈ios)∨s∈o.dst.toList:=fun s hs=>by
  rw [hslots] at hs
  rcases List.mem_append.1 hs with hs|hs
  ·exact .inl (List.mem_append.1 hs)
  ·exact .inr hs
 have slot:∀s,s∈us.map (·.s)→(qA σ s).1<(qA (qv σ us) s).1∧qaO (sit C (qv σ us) (a.put o.dst (qfg vs)).tmps w' own') (qA (qv σ us) s).2 ((a.put o.dst (qfg vs)).tmps.getD s undef) (own' s)∧(qA (qv σ us) s).2.mentions=[]:=by
  intro s hs
  obtain ⟨u,hu,rfl⟩:=List.mem_map.1 hs
  rw [at1 u hu]
  refine ⟨Nat.lt_succ_self _,?_⟩
  have hu0:=hu
  rw [←hus] at hu
  rcases List.mem_append.1 hu with hu|hu
  ·rcases List.mem_append.1 hu with hu|hu
   ·obtain ⟨s,hs,rfl⟩:=List.mem_map.1 hu
    exact ⟨trivial,rfl⟩
   ·have hsi:u.s∈ios:=by rw [←u1]; exact List.mem_map_of_mem hu
    refine ⟨?_,(u2' u hu).2.1⟩
    rw [htmps _ (fun hm=>hdst' _ hm (List.mem_append_right _ hsi))]
    exact (u2' u hu).2.2 _ rfl rfl
  ·unfold qcl at hu
   cases hdd:o.dst with
   |none=>rw [hdd] at hu; cases hu
   |some d=>
    rw [hdd] at hu
    have hu:u=⟨d,true,qjo D.rs y.1⟩:=by simpa using hu
    have hdl:d<σ.length:=by have:=(hub u hu0).2; rw [hu] at this; exact this
    subst hu
    refine ⟨?_,qns _ _⟩
    show qaO _ _ ((a.put (some d) (qfg vs)).tmps.getD d undef) (own' d)
    rw [oDst d hdd,show (a.put (some d) (qfg vs)).tmps.getD d undef=qfg vs from qev _ _ (by rw [h.size]; exact hdl)]
    exact qut (X:=sit C (qv σ us) _ w' own') D.rs hres'
 refine h.update (fun s=>s∈us.map (·.s)) (qS _ _) (by cases o.dst <;> simp [Act.put]) ?_ (fun s hs=> .inl (slot s hs).1) ?_ ?_ ?_ ?_ (fun s hs=>(slot s hs).2.1) (fun s hs m hm=>by rw [(slot s hs).2.2] at hm; cases hm)
 ·intro s hs
  refine ⟨at2 s hs,htmps s fun hm=>hs ?_,oElse s hs⟩
  rw [hslots]
  exact List.mem_append_right _ hm
 ·refine hkept.mono fun k hk=> ?_
  obtain ⟨s,hs,hb⟩:=gi k hk
  exact ⟨s,by rw [hslots]; exact List.mem_append_left _ hs,hb⟩
 ·intro s hs
  obtain ⟨u,hu,rfl⟩:=List.mem_map.1 hs
  exact (hub u hu).2
 ·intro s hs
  rcases hmem s hs with (hm|hm)|hm
  ·rw [oGone s hm]
   exact ⟨fun b hb=>(by cases hb),List.nodup_nil⟩
  ·refine ⟨fun b hb=> ?_,(oIos s hm).1⟩
   rcases List.mem_append.1 ((oIos s hm).2 b hb) with hb|hb
   ·obtain ⟨s',h1,h2⟩:=gi b (List.mem_append_right _ hb)
    exact .inr ⟨s',by rw [hslots]; exact List.mem_append_left _ h1,h2⟩
   ·obtain ⟨h1,h2⟩:=hbl b (List.mem_append_right _ hb)
    rcases h1 with hgb|hfr
    ·obtain ⟨s',hs',k⟩:=hg b hgb
     exact .inr ⟨s',by rw [hslots]; exact List.mem_append_left _ hs',k⟩
    ·exact .inl ⟨hfr,h2⟩
  ·rw [oDst s (by simpa using hm)]
   refine ⟨fun b hb=> ?_,hbn⟩
   obtain ⟨h1,h2⟩:=hbl b (List.mem_append_left _ hb)
   rcases h1 with hgb|hfr
   ·obtain ⟨s',hs',k⟩:=hg b hgb
    exact .inr ⟨s',by rw [hslots]; exact List.mem_append_left _ hs',k⟩
   ·exact .inl ⟨hfr,h2⟩
 ·intro s s' b hs hs' hb hb'
  have sub:∀s,s∈us.map (·.s)→s∉o.dst.toList→b∈own' s→b∈i++js∧s∈ios:=by
   intro s hs hnd hb
   rcases hmem s hs with (hm|hm)|hm
   ·rw [oGone s hm] at hb; cases hb
   ·exact ⟨(oIos s hm).2 b hb,hm⟩
   ·exact (hnd hm).elim
  have cross:∀s s',s∈o.dst.toList→s'∈us.map (·.s)→s'∉o.dst.toList→b∈own' s→b∈own' s'→False:=by
   intro s s' hd hs' hnd hb hb'
   rw [oDst s (by simpa using hd)] at hb
   obtain ⟨k1,k2⟩:=sub s' hs' hnd hb'
   rcases List.mem_append.1 k1 with k1|k1
   ·exact hbi b (List.mem_append_left _ hb) k1
   ·exact hbjn'.2.2 b hb b k1 rfl
  by_cases h1:s∈o.dst.toList <;> by_cases h2:s'∈o.dst.toList
  ·have e1:o.dst=some s:=by simpa using h1
   have e2:o.dst=some s':=by simpa using h2
   rw [e1] at e2
   injection e2
  ·exact (cross s s' h1 hs' h2 hb hb').elim
  ·exact (cross s' s h2 hs h1 hb' hb).elim
  ·exact oAp s (sub s hs h1 hb).2 s' (sub s' hs' h2 hb').2 b hb hb'
end
end Go.Vi
namespace Go.Vi
open Go.RowKit
section
variable {C:Ctx} {E:Env} {σ:St} {tm:Array Value} {a:Act} {w w':World} {own:Nat→List Nat} {o:Oper} {p:qh5} [Tabbed E C]
theorem qas.expose (h:qas C σ tm w own) {s:Nat} {c:BC} {u:Ty} {x:u.den} {f:Bool} (hs:(qA σ s).2= .box c) (hsz:c.size=u.size) (hg:c.get 0 u=some (x,f)):
  ∃own',qas C (qX σ ⟨s,true,.view u x 0⟩) tm w own'∧(∀b,C.free w own b→C.free w own' b)∧(∀s',∀b∈own' s',b∈own s')∧
   ∃(b:Nat) (cs:List Value),tm.getD s undef= .pointer (some ⟨b,0,none⟩)∧C.free w own' b∧b<w.heap.size∧qhf w ⟨b,0,none⟩ cs∧Rep w (C.free w own') u x cs:=by
 have hsl:s<σ.length:=qhd (by rw [hs]; simp)
 have hr:=h.rep s hsl
 rw [hs] at hr
 obtain ⟨b,cs,bs',te,h1,h2,h3,h4⟩:=hr
 let own':Nat→List Nat:=fun s'=>if s'=s then [] else own s'
 have sub:∀s',∀b∈own' s',b∈own s':=fun s' b hb=>by
  simp only [own'] at hb
  split at hb
  ·cases hb
  ·exact hb
 have mono:∀b,C.free w own b→C.free w own' b:=fun b hb=>⟨hb.1,hb.2.1,fun s' hs'=>hb.2.2 s' (sub s' b hs')⟩
 have new:∀b∈own s,C.free w own' b:=fun b hb=>⟨.inr (h.mine s b hb).1,(h.mine s b hb).2,fun s' hs'=>by
  have:=h.apart s s' b hb (sub s' b hs')
  subst this
  simp [own'] at hs'⟩
 have hb0:b∈own s:=by rw [h4]; exact List.mem_cons_self
 obtain ⟨q1,q2,_⟩:=h3.get hg
 have hlen:=h3.length
 rw [List.drop_zero,List.take_of_length_le (by omega)] at q2
 have hrep:Rep w (C.free w own') u x cs:=q2.keep fun b' hb' hlt=>⟨by
  rcases hb' with hb'|hb'
  ·exact mono b' hb'
  ·exact new b' (by rw [h4]; exact List.mem_cons_of_mem _ hb'),hlt,rfl⟩
 have hcl:qhf w ⟨b,0,none⟩ cs:=by
  have:=qir (off:=0) (n:=cs.length) h2
  rwa [List.drop_zero,List.take_length] at this
 have hlt:b<w.heap.size:=(h.mine s b hb0).2
 have eS:qA (qX σ ⟨s,true,.view u x 0⟩) s=((qA σ s).1+1,.view u x 0):=qT σ ⟨s,true,_⟩ hsl
 refine ⟨own',?_,mono,sub,b,cs,h1,new b hb0,hlt,hcl,hrep⟩
 refine h.update (fun x=>x=s) (qao _ _) rfl (fun s' hs'=>⟨qz σ ⟨s,true,.view u x 0⟩ hs',rfl,by simp [own',hs']⟩) (fun s' hs'=> .inl (by subst hs'; rw [eS]; exact Nat.lt_succ_self _)) (qcQ.refl _ _) (fun s' hs'=>by subst hs'; exact hsl) (fun s' hs'=> ?_) (fun x y b hx hy _ _=>hx.trans hy.symm) (fun s' hs'=> ?_) (fun s' hs' m hm=> ?_)
 ·subst hs'
  simp only [own',if_true]
  exact ⟨fun b hb=>(by cases hb),List.nodup_nil⟩
 ·subst hs'
  rw [eS]
  simp only [own',if_true]
  exact ⟨rfl,⟨b,0,none⟩,cs,by rw [h1]; rfl,new b hb0,hlt,hcl,hrep⟩
 ·subst hs'
  rw [eS] at hm
  cases hm
def qjO (w:World) (F:Nat→Prop):(us:List Ty)→denL us→List Value→Prop
 |[],_,vs=>vs=[]
 |u::us,x,vs=>∃(ad:Addr) (cs:List Value) (r:List Value),vs= .pointer (some ad)::r∧F ad.block∧ad.block<w.heap.size∧qhf w ad cs∧Rep w F u x.1 cs∧qjO w F us x.2 r
theorem qjO.keep {w w':World} {F F':Nat→Prop} (hF:∀b,F b→b<w.heap.size→F' b∧b<w'.heap.size∧w'.heap[b]? =w.heap[b]?):(us:List Ty)→ {x:denL us} → {vs:List Value} →qjO w F us x vs→qjO w' F' us x vs
 |[],_,_,h=>h
 |u::us,_,_,⟨ad,cs,r,h1,h2,h3,h4,h5,h6⟩=>by
  obtain ⟨g1,g2,g3⟩:=hF _ h2 h3
  exact ⟨ad,cs,r,h1,g1,g2,fun j z hj=>by rw [←h4 j z hj]; exact World.cell?_of_block (by rw [q8]; exact g3),h5.keep hF,h6.keep hF us⟩
theorem qk1 {P:Program} {w:World} {F:Nat→Prop} :(ts us:List Ty)→ {x:denL ts} → {y:denL us} → {vs cs:List Value} →qek w F ts x vs→qjO w F us y cs→qaA P w F (valPs ts++rdPs us) (qqw ts us x y) (vs++cs) [] []
 |[],[],_,_,vs,cs,h1,h2=>by
  have h1:vs=[]:=h1
  have h2:cs=[]:=h2
  subst h1; subst h2
  exact ⟨rfl,rfl,rfl⟩
 |[],u::us,_,_,vs,cs,h1,⟨ad,ds,r,k1,k2,k3,k4,k5,k6⟩=>by
  have h1:vs=[]:=h1
  subst h1
  exact ⟨ad,ds,r,k1,k2,k3,k4,k5,qk1 [] us (x:=()) (vs:=[]) rfl k6⟩
 |t::ts,us,_,_,vs,cs,⟨v,r,h1,h2,h3⟩,h4=>by
  subst h1
  exact ⟨v,r++cs,rfl,h2,qk1 ts us h3 h4⟩
theorem qmC:(us:List Ty)→(ops:List Operand)→ {q:denL us×List U} →(qrY us ops).run (qA σ)=some q→(qhb ops).Nodup→ {τ:St} → {own:Nat→List Nat} →qas C τ a.tmps w own→(∀s∈qhb ops,qA τ s=qA σ s)→
  ∃own',qas C (qv τ q.2) a.tmps w own'∧(∀b,C.free w own b→C.free w own' b)∧qjO w (C.free w own') us q.1 (ops.map a.eval)∧∀u∈q.2,u.s∈qhb ops
 |[],[],q,he,_,τ,own,h,_=>by
  have:=Q.ret_some he
  subst this
  exact ⟨own,h,fun _ hb=>hb,rfl,fun u hu=>by cases hu⟩
 |[],_::_,_,he,_,_,_,_,_=>by cases he
 |_::_,[],_,he,_,_,_,_,_=>by cases he
 |u::us,.const _::_,_,he,_,_,_,_,_=>by cases he
 |u::us,.func _::_,_,he,_,_,_,_,_=>by cases he
 |u::us,.global _::_,_,he,_,_,_,_,_=>by cases he
 |u::us,.tmp s::r,q,he,hn,τ,own,h,hsame=>by
  simp only [qrY,Q.run_get] at he
  obtain ⟨q1,h1,he⟩:=Q.bind_some he
  have hn:=List.nodup_cons.1 hn
  have hs0:=hsame s List.mem_cons_self
  split at he
  ·rename_i c hc
   split at he
   case isFalse=>cases he
   rename_i hsz
   split at he
   case h_2=>cases he
   rename_i x f hg
   have:=Q.ret_some he
   subst this
   obtain ⟨own1,k1,k2,k3,b,cs,k4,k5,k6,k7,k8⟩:=h.expose (by rw [hs0]; exact hc) hsz hg
   obtain ⟨own2,g1,g2,g3,g4⟩:=qmC us r h1 hn.2 k1 (fun s' hs'=>by
    rw [qz τ ⟨s,true,.view u x 0⟩ (show s'≠s from fun e=>hn.1 (e ▸ hs'))]
    exact hsame s' (List.mem_cons_of_mem _ hs'))
   refine ⟨own2,g1,fun b hb=>g2 b (k2 b hb),⟨⟨b,0,none⟩,cs,_,?_,g2 b k5,k6,k7,k8.keep fun b hb hlt=>⟨g2 b hb,hlt,rfl⟩,g3⟩,fun u' hu'=> ?_⟩
   ·simp only [List.map_cons]
    congr 1
   ·rcases List.mem_cons.1 hu' with rfl|hu'
    ·exact List.mem_cons_self
    ·exact List.mem_cons_of_mem _ (g4 u' hu')
  ·rename_i t y off hv
   split at he
   case h_2=>cases he
   rename_i x hsub
   have:=Q.ret_some he
   subst this
   obtain ⟨own2,g1,g2,g3,g4⟩:=qmC us r h1 hn.2 h (fun s' hs'=>hsame s' (List.mem_cons_of_mem _ hs'))
   have hsl:s<τ.length:=qhd (by rw [hs0,hv]; simp)
   have hr:=h.rep s hsl
   rw [hs0,hv] at hr
   obtain ⟨_,ad,cs,m1,m2,m3,m4,m5⟩:=hr
   obtain ⟨n1,n2⟩:=m5.sub hsub
   refine ⟨own2,g1,g2,⟨ad.add off,(cs.drop off).take u.size,_,?_,?_,?_,qph m4,n2.keep fun b hb hlt=>⟨g2 b hb,hlt,rfl⟩,g3⟩,fun u' hu'=>List.mem_cons_of_mem _ (g4 u' hu')⟩
   ·simp only [List.map_cons]
    congr 1
   ·rw [q8]; exact g2 _ m2
   ·rw [q8]; exact m3
  ·cases he
theorem qoE (hF:qg1 E C.P) (h:qas C σ a.tmps w own) {fn:Fn} {first caps:Array Operand} (hop:o.op= .makeFunc fn first caps) {f:Eff}
  (he:(qeI E p o).run (qA σ)=some f) (hd:∀u∈f.upd,u.s<σ.length):qes C o a w (qv σ f.upd):=by
 unfold qeI at he
 rw [hop] at he
 simp only at he
 split at he
 case h_2=>cases he
 rename_i g
 split at he
 case isFalse=>cases he
 rename_i hfirst
 unfold cloE at he
 split at he
 case h_2=>cases he
 rename_i D hD
 split at he
 case h_2=>cases he
 rename_i ts us vs hp1 hp2
 split at he
 case isFalse=>cases he
 rename_i hty
 obtain ⟨q,h1,he⟩:=Q.bind_some he
 split at he
 case isFalse=>cases he
 rename_i hcond
 simp only [Bool.and_eq_true] at hcond
 have:=Q.ret_some he
 subst this
 have hnd:=qex hcond.1
 obtain ⟨own',k1,k2,k3,k4⟩:=qmC us caps.toList h1 hnd h (fun _ _=>rfl)
 have hok:=hF g D hD
 obtain ⟨ps,rs,sem⟩:=D
 obtain ⟨e1,e2⟩:=hty
 simp only at e1 e2 hp1 hp2
 subst e1; subst e2
 have hrun:(execOp a.eval o).run C.P w= .ok (.value (.func (.func g) #[] (caps.map a.eval))) w:=by
  unfold execOp
  rw [hop]
  have hf0:first= #[]:=by simpa using hfirst
  subst hf0
  simp only [Instr.makeFunc,Sem.run_bind,Sem.run_pure,Result.andThen_ok,Array.map_empty]
 have hrep:qoy C.P w (C.free w own') ts vs (fun x:denL ts=>qkf (fun y:RMs.den (valRs vs)×PMs.ioDen (valPs ts++rdPs us)=>qwA vs y.1) (sem (qqw ts us x q.1))) (.func (.func g) #[] (caps.map a.eval)):=by
  refine ⟨g,caps.map a.eval,rfl,hok.1,fun w' F' x y as hkp hvals hy=> ?_⟩
  simp only [qd2,Option.map_eq_some_iff] at hy
  obtain ⟨z,hz,rfl⟩:=hy
  have hcaps:qjO w' F' us q.1 (caps.map a.eval).toList:=by
   have:=k3.keep hkp us
   simpa using this
  have hpar:=qk1 (P:=C.P) ts us hvals hcaps
  have:=hok.2 w' F' (qqw ts us x q.1) z (as++(caps.map a.eval).toList) [] [] ((qas.tabsE (E:=E) k1).keep hkp) hpar (fun b hb=>by cases hb) List.nodup_nil hz
  have e:(as++(caps.map a.eval).toList).toArray=as.toArray++caps.map a.eval:=by simp
  rw [e] at this
  refine Calls.mono this ?_
  rintro e w'' ⟨v',rfl,rs,bs,js,rfl,_,_,hres,_,hk⟩
  obtain ⟨m1,rfl⟩:=qld vs hres
  refine ⟨rs,rfl,m1.mono vs fun b hb=> ?_,hk.mono fun b hb=>by cases hb⟩
  rcases hb.1 with h|h|h
  ·exact .inl h
  ·cases h
  ·exact .inr h
 have hd2:∀u∈qcl o (.fnv ts vs (fun x:denL ts=>qkf (fun y:RMs.den (valRs vs)×PMs.ioDen (valPs ts++rdPs us)=>qwA vs y.1) (sem (qqw ts us x q.1)))),u.s<(qv σ q.2).length:=fun u hu=>by
  rw [qS]; exact hd u (List.mem_append_right _ hu)
 obtain ⟨own2,hst⟩:=k1.dst0 (o:=o) (av:= .fnv ts vs (fun x:denL ts=>qkf (fun y:RMs.den (valRs vs)×PMs.ioDen (valPs ts++rdPs us)=>qwA vs y.1) (sem (qqw ts us x q.1)))) (v:= .func (.func g) #[] (caps.map a.eval)) hd2 ⟨rfl,hrep⟩ (fun m hm=>by cases hm)
 intro K Q1 hK
 unfold Oper.wp
 rw [hrun]
 rw [qb7] at hK
 exact hK _ _ own2 (qiy o a _) hst
end
end Go.Vi
namespace Go.Vi
open Go.RowKit
theorem qvL:(k:Ty)→k.key=true→ {x y:k.den} →keyV k x=keyV k y→x=y
 | .int _,_,x,y,h=>by simp [keyV] at h; exact h
 | .bool,_,x,y,h=>by simp [keyV] at h; exact h
 | .str,_,x,y,h=>by simpa [keyV] using h
theorem qey: {k:Ty} → {d:TypeDesc} →qk3 k d=true→(x:k.den)→MapKept.IsKey d (keyV k x)
 | .int k,.int k',h,_=>by
  have:k'=k:=of_decide_eq_true h
  exact this.symm
 | .bool,.bool,_,_=>trivial
 | .str,.string,_,_=>trivial
theorem qhB: {k:Ty} → {d:TypeDesc} →qk3 k d=true→k.key=true
 | .int _,.int _,_=>rfl
 | .bool,.bool,_=>rfl
 | .str,.string,_=>rfl
theorem qaN.keyV {w:World} {F:Nat→Prop} : {k:Ty} →k.key=true→ {x:k.den} → {v:Value} →qaN w F k x v→v=Vi.keyV k x
 | .int _,_,_,_,h=>h.int.1
 | .bool,_,_,_,h=>h.bool
 | .str,_,_,_,h=>h.str.1
section
open Classical
theorem qvh {α β:Type} (k:α):qh0 ([]:List (α×β)) k=0:=rfl
theorem quC {α β:Type} (p:α×β) (xs:List (α×β)) (k:α):qh0 (p::xs) k=if p.1=k then 0 else qh0 xs k+1:=by
 unfold qh0
 rw [List.findIdx_cons]
 by_cases h:p.1=k
 ·simp [h]
 ·simp [h]
end
theorem qwB {α β:Type} {xs:List (α×β)} {k:α} (h:qh0 xs k<xs.length):(xs[qh0 xs k]'h).1=k:=by
 unfold qh0 at h⊢
 have:=List.findIdx_getElem (w:=h)
 simpa using this
theorem qru {k:Ty} {d:TypeDesc} (hd:qk3 k d=true) {β:Type} (x:k.den):∀(xs:List (k.den×β)) (l:List MapEntry) (i:Nat),l.length=xs.length→(∀(j:Nat) (e:MapEntry) (p:k.den×β),l[j]? =some e→xs[j]? =some p→e.key=keyV k p.1)→
  (qh0 xs x<xs.length∧∃e,l[qh0 xs x]? =some e∧Instr.findNow d (keyV k x) l i=some (some (i+qh0 xs x,e.val)))∨(¬qh0 xs x<xs.length∧Instr.findNow d (keyV k x) l i=some none)
 |[],[],i,_,_=> .inr ⟨by simp [qvh],rfl⟩
 |p::xs,e::l,i,hl,h=>by
  have hk:e.key=keyV k p.1:=h 0 e p rfl rfl
  obtain ⟨r,hr,hiff⟩:=MapKept.sameNow_of_keys (qey hd x) (by rw [hk]; exact qey hd p.1:MapKept.IsKey d e.key)
  rw [quC]
  by_cases hpx:p.1=x
  ·have hr1:r=true:=hiff.2 (by rw [hk,hpx])
   subst hr1
   rw [if_pos hpx]
   exact .inl ⟨by simp,e,rfl,by simp [Instr.findNow,hr]⟩
  ·have hr1:r=false:=by
    cases r with
    |false=>rfl
    |true=>exact absurd (qvL k (qhB hd) (by rw [←hk]; exact (hiff.1 rfl).symm)) hpx
   subst hr1
   rw [if_neg hpx]
   rcases qru hd x xs l (i+1) (by simpa using hl) (fun j e p he hp=>h (j+1) e p (by simpa using he) (by simpa using hp)) with ⟨h1,e',h2,h3⟩|⟨h1,h2⟩
   ·refine .inl ⟨by simpa using h1,e',by simpa using h2,?_⟩
    simp [Instr.findNow,hr,h3]
    omega
   ·exact .inr ⟨by simpa using h1,by simp [Instr.findNow,hr,h2]⟩
section
variable {C:Ctx} {E:Env} {σ:St} {tm:Array Value} {a:Act} {w w':World} {own:Nat→List Nat} {o:Oper} {p:qh5} [Tabbed E C]
theorem qpQ (h:qas C σ a.tmps w own) {x:Operand} {o1:Op1} {tid:Nat} (hp:qcn (sit C σ a.tmps w own) p) (hx:(opd E p tid x).run (qA σ)=some o1) {M:MV} (he:(qve o1).run (qA σ)=some M):
  M.s<σ.length∧(qA σ M.s).2= .mp M.k M.v M.xs∧a.tmps.getD M.s undef=a.eval x∧qjX w (C.free w own) M.k M.v M.xs (a.eval x) (own M.s):=by
 have ho:=qaS h hp hx
 have lt:∀s,(qA σ s).2= .mp M.k M.v M.xs→s<σ.length:=fun s hs=>by
  apply Classical.byContradiction
  intro hn
  have:qA σ s=(0,.undef):=by simp [qA,List.getD,List.getElem?_eq_none (Nat.le_of_not_lt hn)]
  rw [this] at hs
  cases hs
 unfold qve at he
 split at he
 ·rename_i s k v xs h1 h2
  have:=Q.ret_some he
  subst this
  have hgs:(qA σ s).2= .mp k v xs∨∃s' v' w' a',(qA σ s).2= .grd s' v' w' a':=by
   unfold opd at hx
   split at hx
   ·rename_i t
    rw [Q.run_get] at hx
    have:=Q.ret_some hx
    subst this
    simp only at h1 h2
    injection h1 with h1
    subst h1
    generalize hg:(qA σ t).2=g at h2
    cases g with
    |grd s' v' w' a'=>exact .inr ⟨s',v',w',a',rfl⟩
    |_=>left; unfold qce at h2; exact h2
   ·split at hx
    ·have:=Q.ret_some hx
     subst this
     cases h1
    ·cases hx
   ·have:=Q.ret_some hx
    subst this
    cases h1
   ·split at hx
    ·have:=Q.ret_some hx
     subst this
     cases h1
    ·cases hx
  unfold qcD at ho
  rw [h1,h2] at ho
  obtain ⟨e1,e2,e3⟩:=ho
  rcases hgs with hgs|⟨s',v',w',a',hgs⟩
  ·exact ⟨lt s hgs,hgs,e1.symm,e3⟩
  ·have hat:=h.at_ s
   rw [hgs] at hat
   have hn:own s=[]:=hat.1
   obtain ⟨b,es,_,hb,_⟩:=e3
   have hb:own s=[b]:=hb
   rw [hn] at hb
   cases hb
 ·rename_i s v0 h2
  rw [Q.run_get] at he
  split at he
  ·rename_i hv
   split at he
   ·rename_i k v xs hm
    have:=Q.ret_some he
    subst this
    have hu:=ho.unowned (by rw [h2]; rfl)
    rw [h2] at hu
    have e1:a.tmps.getD s undef=a.eval x:=hu.2 hv
    have hat:=h.at_ s
    rw [hm,e1] at hat
    exact ⟨lt s hm,hm,e1,hat⟩
   ·cases he
  ·cases he
 ·cases he
theorem qwu (h:qas C σ a.tmps w own) {k:Ty} (hk:k.key=true) {o1:Op1} {v:Value} {q:k.den×List Nat} (ho:qcD (sit C σ a.tmps w own) o1 v) (he:(toVal k o1).run (qA σ)=some q):v=keyV k q.1:=
 (qdx h ho he).keyV hk
theorem qpF (hE:qcc E C.P) (h:qas C σ a.tmps w own) {t:Nat} {r:Option Operand} (hop:o.op= .makeMap t r) {f:Eff}
  (he:(qeI E p o).run (qA σ)=some f) (hd:∀u∈f.upd,u.s<σ.length):qes C o a w (qv σ f.upd):=by
 unfold qeI at he
 rw [hop] at he
 simp only at he
 split at he
 case isFalse=>cases he
 rename_i hr
 cases r with
 |some _=>cases hr
 |none=>
  unfold qrJ at he
  split at he
  ·rename_i k v hty
   have:=qV he
   subst this
   obtain ⟨kn,vn,d,i,z,h1,h2,h3,_⟩:=hE.map t k v hty
   refine qU (v:= .map (some w.heap.size)) (w':=w.alloc (.map #[] 0)) ?_ (h.dst (bs:=[w.heap.size]) (qcQ.alloc _ w _) hd (fun b hb=> ?_) (by simp) ?_ (fun m hm=>by cases hm))
   ·unfold execOp
    rw [hop]
    simp [Instr.makeMap]
   ·simp at hb
    subst hb
    exact ⟨Nat.le_refl _,by simp⟩
   ·refine ⟨w.heap.size,#[],rfl,rfl,?_,rfl,qhB h3,fun i e p hi _=>by simp at hi⟩
    exact (MapKept.heap_alloc w _).1
  ·cases he
theorem qjX.look {F:Nat→Prop} {k t:Ty} {xs:List (k.den×t.den)} {v:Value} {bs:List Nat} (h:qjX w F k t xs v bs) {d:TypeDesc} (hd:qk3 k d=true) (x:k.den):
  ∃b es,v= .map (some b)∧bs=[b]∧w.heap[b]? =some (.map es es.size)∧es.size=xs.length∧
   ((qwm xs x=false∧(∀dd,qf7 xs x dd=dd)∧Instr.findNow d (keyV k x) es.toList 0=some none)∨
    ∃e q,qwm xs x=true∧(∀dd,qf7 xs x dd=q.2)∧es[qh0 xs x]? =some e∧xs[qh0 xs x]? =some q∧e.key=keyV k x∧qaN w F t q.2 e.val∧Instr.findNow d (keyV k x) es.toList 0=some (some (qh0 xs x,e.val))):=by
 obtain ⟨b,es,h1,h2,h3,h4,h5,h6⟩:=h
 refine ⟨b,es,h1,h2,h3,h4,?_⟩
 rcases qru hd x xs es.toList 0 (by simpa using h4) (fun j e p he hp=>(h6 j e p (by simpa using he) hp).1) with ⟨g1,e,g2,g3⟩|⟨g1,g2⟩
 ·right
  have hq:=List.getElem?_eq_getElem g1
  have he:es[qh0 xs x]? =some e:=by simpa using g2
  refine ⟨e,xs[qh0 xs x],by rw [ql7]; simp [g1],fun dd=>by rw [qj1,hq]; rfl,he,hq,?_,(h6 _ e _ he hq).2.2,by simpa using g3⟩
  rw [(h6 _ e _ he hq).1]
  congr 1
  exact qwB g1
 ·left
  refine ⟨by rw [ql7]; simp [g1],fun dd=> ?_,g2⟩
  rw [qj1,List.getElem?_eq_none (by omega)]
  rfl
theorem qqT (hE:qcc E C.P) (h:qas C σ a.tmps w own) (hp:qcn (sit C σ a.tmps w own) p) {t:Nat} {m k:Operand} {ok:Bool} (hop:o.op= .lookup t m k ok) {f:Eff}
  (he:(qeI E p o).run (qA σ)=some f) (hd:∀u∈f.upd,u.s<σ.length):qes C o a w (qv σ f.upd):=by
 unfold qeI at he
 rw [hop] at he
 simp only at he
 obtain ⟨m1,g1,he⟩:=Q.bind_some he
 obtain ⟨k1,g2,he⟩:=Q.bind_some he
 unfold quJ at he
 obtain ⟨M,g3,he⟩:=Q.bind_some he
 obtain ⟨q,g4,he⟩:=Q.bind_some he
 split at he
 case isFalse=>cases he
 rename_i hty
 obtain ⟨kn,vn,d,i,z,e1,e2,e3,e4,e5,e6⟩:=hE.map t M.k M.v hty
 obtain ⟨hlt,hgs,htm,hrep⟩:=qpQ h hp g1 g3
 have hkv:=qwu h (qhB e3) (qaS h hp g2) g4
 obtain ⟨b,es,r1,r2,r3,r4,r5⟩:=hrep.look e3 q.1
 obtain ⟨v,hv,hrun⟩:∃v,qaN w (C.free w own) M.v (qf7 M.xs q.1 M.v.dflt) v∧∀cok,(Instr.lookup t (.map (some b)) (keyV M.k q.1) cok).run C.P w= .ok (if cok then .tuple #[v,.bool (qwm M.xs q.1)] else v) w:=by
  rcases r5 with ⟨s1,s2,s3⟩|⟨e,qq,s1,s2,s3,s4,s5,s6,s7⟩
  ·refine ⟨z,by rw [s2]; exact e6 _ _,fun cok=> ?_⟩
   simp [Instr.lookup,run_underlying e1,MapKept.run_getObj_map r3,MapKept.run_checkKey e2 (qey e3 q.1),MapKept.run_findKey e2 s3,zeroValue,typeInfo,e4,e5,s1]
  ·refine ⟨e.val,by rw [s2]; exact s6,fun cok=> ?_⟩
   simp [Instr.lookup,run_underlying e1,MapKept.run_getObj_map r3,MapKept.run_checkKey e2 (qey e3 q.1),MapKept.run_findKey e2 s7,s1]
 have hex:(execOp a.eval o).run C.P w= .ok (.value (if ok then .tuple #[v,.bool (qwm M.xs q.1)] else v)) w:=by
  unfold execOp
  rw [hop]
  simp only [Sem.run_bind,r1,hkv,hrun ok,Result.andThen_ok]
  rfl
 split at he
 ·have:=qV he
  subst this
  exact qbg h hex hd hv
 ·have:=qV he
  subst this
  refine qU hex (h.dst0 hd ?_ (fun m hm=>by cases hm))
  exact ⟨[v,.bool (qwm M.xs q.1)],rfl,v,_,[],[],rfl,rfl,⟨rfl,hv⟩,_,[],[],[],rfl,rfl,⟨rfl,qaN.ofBool _ _ _⟩,rfl,rfl⟩
theorem qas.mapTurn (h:qas C σ tm w own) {s b:Nat} {k t:Ty} {xs ys:List (k.den×t.den)} {es es':Array MapEntry} (hs:s<σ.length) (hgs:(qA σ s).2= .mp k t xs) (hown:own s=[b]) (htm:tm.getD s undef= .map (some b))
  (hb:w.heap[b]? =some (.map es es.size)) (hk:k.key=true) (hsz:es'.size=ys.length)
  (hx:∀(i:Nat) (e:MapEntry) (p:k.den×t.den),es'[i]? =some e→ys[i]? =some p→e.key=keyV k p.1∧e.born=i∧qaN w (C.free w own) t p.2 e.val):
  qas C (qv σ [⟨s,false,.mp k t ys⟩]) tm { w with heap:=w.heap.setIfInBounds b (.map es' es'.size) } own:=by
 obtain ⟨hh1,hh2⟩:=MapKept.heap_set (o':= .map es' es'.size) hb
 have hsz':({ w with heap:=w.heap.setIfInBounds b (.map es' es'.size) } :World).heap.size=w.heap.size:=by simp
 have eS:qA (qv σ [⟨s,false,.mp k t ys⟩]) s=((qA σ s).1,.mp k t ys):=qT σ ⟨s,false,_⟩ hs
 have eN:∀x,x≠s→qA (qv σ [⟨s,false,.mp k t ys⟩]) x=qA σ x:=fun x hx=>qz σ ⟨s,false,_⟩ hx
 have hfree:∀x,C.free w own x→x<w.heap.size→C.free { w with heap:=w.heap.setIfInBounds b (.map es' es'.size) } own x∧x<({ w with heap:=w.heap.setIfInBounds b (.map es' es'.size) } :World).heap.size∧({ w with heap:=w.heap.setIfInBounds b (.map es' es'.size) } :World).heap[x]? =w.heap[x]? :=fun x hx hlt=>
  ⟨⟨hx.1,by rw [hsz']; exact hlt,hx.2.2⟩,by rw [hsz']; exact hlt,hh2 x fun e=>hx.2.2 s (by rw [hown,e]; simp)⟩
 refine h.update (fun x=>x=s) (qS _ _) rfl (fun x hx=>⟨eN x hx,rfl,rfl⟩) (fun x hx=> ?_) ?_ (fun x hx=>hx ▸ hs) (fun x hx=> ?_) (fun x x' b' hx hx' _ _=>hx.trans hx'.symm) (fun x hx=> ?_) (fun x hx m hm=> ?_)
 ·subst hx
  right
  refine ⟨by rw [eS],rfl,fun b' _ hp=> ?_⟩
  rw [htm] at hp
  cases hp
 ·refine ⟨rfl,rfl,rfl,Nat.le_of_eq hsz'.symm,fun x hlt hn=>hh2 x fun e=>hn ⟨s,rfl,by rw [hown,e]; simp⟩⟩
 ·subst hx
  exact ⟨fun b' hb'=> .inr ⟨x,rfl,hb'⟩,h.nodup x⟩
 ·subst hx
  rw [eS]
  refine ⟨b,es',htm,hown,hh1,hsz,hk,fun i e p hi hpp=> ?_⟩
  obtain ⟨q1,q2,q3⟩:=hx i e p hi hpp
  exact ⟨q1,q2,q3.1.keep hfree,q3.2⟩
 ·subst hx
  rw [eS] at hm
  cases hm
theorem qsU {es:Array MapEntry} {i j:Nat} {g:MapEntry→MapEntry} {e:MapEntry} (h:(es.modify i g)[j]? =some e):∃e0,es[j]? =some e0∧e=if i=j then g e0 else e0:=by
 rw [Array.getElem?_modify] at h
 split at h
 ·rename_i hij
  cases he:es[j]? with
  |none=>rw [he] at h; cases h
  |some e0=>
   rw [he] at h
   injection h with h
   exact ⟨e0,rfl,by rw [if_pos hij]; exact h.symm⟩
 ·rename_i hij
  exact ⟨e,h,by rw [if_neg hij]⟩
theorem qnw (hE:qcc E C.P) (h:qas C σ a.tmps w own) (hp:qcn (sit C σ a.tmps w own) p) {t:Nat} {m k x:Operand} (hop:o.op= .mapUpdate t m k x) {f:Eff}
  (he:(qeI E p o).run (qA σ)=some f) (hd:∀u∈f.upd,u.s<σ.length):qes C o a w (qv σ f.upd):=by
 unfold qeI at he
 rw [hop] at he
 simp only at he
 split at he
 ·cases he
 rename_i hdst
 obtain ⟨m1,g1,he⟩:=Q.bind_some he
 obtain ⟨k1,g2,he⟩:=Q.bind_some he
 obtain ⟨x1,g2',he⟩:=Q.bind_some he
 unfold qnV at he
 obtain ⟨M,g3,he⟩:=Q.bind_some he
 obtain ⟨q,g4,he⟩:=Q.bind_some he
 obtain ⟨r,g5,he⟩:=Q.bind_some he
 split at he
 case isFalse=>cases he
 rename_i hcond
 obtain ⟨hty,hns⟩:=hcond
 obtain ⟨fz,g6,he⟩:=Q.bind_some he
 have:=qV he
 subst this
 obtain ⟨kn,vn,d,i,z,e1,e2,e3,e4,e5,e6⟩:=hE.map t M.k M.v hty
 obtain ⟨hlt,hgs,htm,hrep⟩:=qpQ h hp g1 g3
 have hkv:=qwu h (qhB e3) (qaS h hp g2) g4
 have hxv:=qdx h (qaS h hp g2') g5
 obtain ⟨σ1,own1,hst,hσ1,hl1,hown1,hgs1,hrx,hfr⟩:∃σ1 own1,qas C σ1 a.tmps w own1∧σ1=qv σ fz∧σ1.length=σ.length∧own1 M.s=own M.s∧(qA σ1 M.s).2= .mp M.k M.v M.xs∧qaN w (C.free w own1) M.v r.1 (a.eval x)∧(∀b,C.free w own b→C.free w own1 b):=by
  by_cases hf:M.v.flat=true
  ·rw [if_pos hf] at g6
   have:=Q.ret_some g6
   subst this
   exact ⟨σ,own,h,rfl,rfl,rfl,hgs,hxv.flat hf,fun _ hb=>hb⟩
  ·rw [if_neg hf] at g6
   obtain ⟨own',q1,q2,q3,q4⟩:=qdo r.2 h g6
   exact ⟨qv σ fz,own',q1,rfl,qS _ _,(q3 _ hns).1,by rw [(q3 _ hns).2]; exact hgs,hxv.mono fun b hb _=>q4 b hb,fun b hb=>q4 b (.inl hb)⟩
 rw [qb7,←hσ1]
 have hrep1:qjX w (C.free w own1) M.k M.v M.xs (a.eval m) (own1 M.s):=by
  have:=hst.at_ M.s
  rw [hgs1] at this
  have h2:a.tmps.getD M.s undef=a.eval m:=htm
  rw [h2] at this
  exact this
 obtain ⟨b,es,r1,r2,r3,r4,r5⟩:=hrep1.look e3 q.1
 obtain ⟨b',es',r1',r2',r3',r4',r5',r6'⟩:=hrep1
 have hbb:b'=b:=by rw [r1] at r1'; injection r1' with r1'; injection r1' with r1'; exact r1'.symm
 subst hbb
 have hee:es'=es:=by rw [r3] at r3'; injection r3' with r3'; injection r3' with r3' _; exact r3'.symm
 subst hee
 have htm':a.tmps.getD M.s undef= .map (some b'):=by rw [htm]; exact r1
 have put0:∀w2,qas C (qv σ1 [⟨M.s,false,.mp M.k M.v (qlW M.xs q.1 r.1)⟩]) a.tmps w2 own1→∃own',qas C (qv σ1 [⟨M.s,false,.mp M.k M.v (qlW M.xs q.1 r.1)⟩]) (a.put o.dst undef).tmps w2 own':=fun w2 hh=>by
  have:o.dst=none:=by cases ho:o.dst <;> simp [ho] at hdst⊢
  rw [this]
  exact ⟨own1,hh⟩
 rcases r5 with ⟨s1,s2,s3⟩|⟨e,qq,s1,s2,s3,s4,s5,s6,s7⟩
 ·have hn:¬qh0 M.xs q.1<M.xs.length:=by rw [ql7] at s1; simpa using s1
  have hput:qlW M.xs q.1 r.1=M.xs++[(q.1,r.1)]:=by rw [qj8,if_neg hn]
  refine qid (w':= { w with heap:=w.heap.setIfInBounds b' (.map (es'.push { key:=keyV M.k q.1,val:=a.eval x,born:=es'.size }) (es'.push { key:=keyV M.k q.1,val:=a.eval x,born:=es'.size }).size) }) ?_ (put0 _ ?_)
  ·unfold execOp
   rw [hop]
   simp [r1,hkv,Instr.mapUpdate,run_underlying e1,MapKept.run_getObj_map r3,MapKept.run_checkKey e2 (qey e3 q.1),MapKept.run_findKey e2 s3,MapKept.run_setObj_map _ r3]
  ·rw [hput]
   refine hst.mapTurn (by rw [hl1]; exact hlt) hgs1 r2 htm' r3 r5' (by simp [r4]) (fun j ee pp hj hpp=> ?_)
   rw [Array.getElem?_push] at hj
   split at hj
   ·rename_i hjs
    injection hj with hj
    subst hj
    rw [hjs,r4,List.getElem?_append_right (Nat.le_refl _)] at hpp
    simp at hpp
    subst hpp
    exact ⟨rfl,hjs.symm,hrx⟩
   ·rename_i hjs
    have hjl:j<es'.size:=(Array.getElem?_eq_some_iff.1 hj).1
    rw [List.getElem?_append_left (by omega)] at hpp
    exact r6' j ee pp hj hpp
 ·have hn:qh0 M.xs q.1<M.xs.length:=by rw [ql7] at s1; simpa using s1
  have hput:qlW M.xs q.1 r.1=M.xs.set (qh0 M.xs q.1) (qq.1,r.1):=by rw [qj8,if_pos hn,qtY,s4]
  refine qid (w':= { w with heap:=w.heap.setIfInBounds b' (.map (es'.modify (qh0 M.xs q.1) fun e=> { e with key:=keyV M.k q.1,val:=a.eval x }) (es'.modify (qh0 M.xs q.1) fun e=> { e with key:=keyV M.k q.1,val:=a.eval x }).size) }) ?_ (put0 _ ?_)
  ·unfold execOp
   rw [hop]
   simp [r1,hkv,Instr.mapUpdate,run_underlying e1,MapKept.run_getObj_map r3,MapKept.run_checkKey e2 (qey e3 q.1),MapKept.run_findKey e2 s7,s3,s5,MapKept.run_keyThatStays (qey e3 q.1),MapKept.run_setObj_map _ r3]
  ·rw [hput]
   refine hst.mapTurn (by rw [hl1]; exact hlt) hgs1 r2 htm' r3 r5' (by simp [r4]) (fun j ee pp hj hpp=> ?_)
   obtain ⟨e0,hj2,rfl⟩:=qsU hj
   by_cases hij:qh0 M.xs q.1=j
   ·subst hij
    rw [List.getElem?_set_self hn] at hpp
    injection hpp with hpp
    subst hpp
    rw [s3] at hj2
    injection hj2 with hj2
    subst hj2
    rw [if_pos rfl]
    obtain ⟨t1,t2,t3⟩:=r6' _ _ _ s3 s4
    exact ⟨by rw [←t1]; exact s5.symm,t2,hrx⟩
   ·rw [if_neg hij]
    rw [List.getElem?_set_ne hij] at hpp
    exact r6' j e0 pp hj2 hpp
end
end Go.Vi
namespace Go.Vi
open Go.RowKit
structure qpU (E:Env) (C:Ctx) (pin:List Nat):Prop where
 fns:qg1 E C.P
 pins:∀k∈E.pins,∃b,C.pn k=some b
 sub:∀k b,C.pn k=some b→k∈pin
def quR (C:Ctx) (tm:Array Value):Prop:=∀k b,C.pn k=some b→tm.getD k undef=ptr b 0
section
variable {C:Ctx} {E:Env} {σ:St} {tm:Array Value} {a:Act} {w w':World} {own:Nat→List Nat} {o:Oper} {p:qh5} [Tabbed E C]
theorem qfZ {a b:List Nat} (h:apart a b=true):∀s∈a,s∉b:=by
 intro s hs hb
 have:=List.all_eq_true.1 h s hs
 simp at this
 exact this hb
theorem qc1.turn {σ':St} {own':Nat→List Nat} (hl:σ'.length=σ.length): {ps:List PM} → {as:List Value} → {ss i inn:List Nat} →(∀s∈ss,own' s=own s)→qc1 σ tm own ps as ss i inn→qc1 σ' tm own' ps as ss i inn
 |[],_,_,_,_,_,h=>h
 | .io _::ps,_,_,_,_,hs,⟨s,r,b,i2,n1,n2,h1,h2,h3,h4,h5,h6,h7⟩=>by
  subst h1
  exact ⟨s,r,b,i2,n1,n2,rfl,h2,h3,by rw [hs s List.mem_cons_self]; exact h4,h5,by rw [hl]; exact h6,h7.turn hl fun s' hs'=>hs s' (List.mem_cons_of_mem _ hs')⟩
 | .iob _::ps,_,_,_,_,hs,⟨s,r,b,i2,n1,n2,m,h1,h2,h3,h4,h5,h6,h7⟩=>by
  subst h1
  exact ⟨s,r,b,i2,n1,n2,m,rfl,h2,h3,by rw [hs s List.mem_cons_self]; exact h4,h5,by rw [hl]; exact h6,h7.turn hl fun s' hs'=>hs s' (List.mem_cons_of_mem _ hs')⟩
 | .ior _ _::ps,_,_,_,_,hs,⟨s,r,i1,i2,h1,h2,h3,h4,h5,h6,h7⟩=>by
  subst h1
  exact ⟨s,r,i1,i2,rfl,h2,by rw [hs s List.mem_cons_self]; exact h3,h4,h5,by rw [hl]; exact h6,h7.turn hl fun s' hs'=>hs s' (List.mem_cons_of_mem _ hs')⟩
 | .val _::ps,_,_,_,_,hs,h=>qc1.turn (ps:=ps) hl hs h
 | .own _ _::ps,_,_,_,_,hs,h=>qc1.turn (ps:=ps) hl hs h
 | .fn _ _::ps,_,_,_,_,hs,h=>qc1.turn (ps:=ps) hl hs h
 | .nil _ _::ps,_,_,_,_,hs,h=>qc1.turn (ps:=ps) hl hs h
 | .rd _::ps,_,_,_,_,hs,h=>qc1.turn (ps:=ps) hl hs h
theorem qmO:(ts:List Ty)→(as:List Value)→qc1 σ tm own (valPs ts) as [] [] []
 |[],_=>⟨rfl,rfl,rfl⟩
 |_::r,as=>qmO r as.tail
theorem qvb (h:qas C σ a.tmps w own) (hpt:quV (sit C σ a.tmps w own)) {D:qs} {fn:Nat} (hD:D.okT C.P E.tabs fn) (hFn:qg1 E C.P) {os:List Op1} {vs:List Value} (ho:qma (sit C σ a.tmps w own) os vs) (hlt:∀o1∈os,∀s,o1.s=some s→o1.a≠ .undef→s<σ.length)
  {f:Eff} (he:(qwP E o D os).run (qA σ)=some f) (hd:∀u∈f.upd,u.s<σ.length) (hc:qdR f.chk)
  (hr:(execOp a.eval o).run C.P w= .ok (.enter fn vs.toArray) w):qes C o a w (qv σ f.upd):=by
 unfold qwP at he
 obtain ⟨A,h1,he⟩:=Q.bind_some he
 split at he
 case isFalse=>cases he
 rename_i hcond
 simp only [Bool.and_eq_true] at hcond
 obtain ⟨⟨c1,c2⟩,c3⟩:=hcond
 obtain ⟨fz,h2,he⟩:=Q.bind_some he
 have:=Q.ret_some he
 subst this
 have hsem:∃y,D.sem A.x=some y:=by
  have:=hc _ (List.mem_singleton.2 rfl)
  exact Option.isSome_iff_exists.1 (by rw [qgF] at this; exact this)
 obtain ⟨y,hy⟩:=hsem
 simp only [hy,ql9,Option.getD_some] at hd⊢
 obtain ⟨g,i,inn,k1,⟨k2,k3⟩,k4,k5⟩:=qdI hFn h hpt D.ps ho hlt h1
 have hdst:∀d,o.dst=some d→d∉A.gone++A.ios:=fun d hd=>qfZ c3 d (by simp [hd])
 have hnd:=qex c1
 have hap:=qfZ c2
 by_cases hfl:(RMs.flat D.rs&&PMs.ioFlat D.ps)=true
 ·rw [if_pos hfl] at h2
  have:=Q.ret_some h2
  subst this
  simp only [Bool.and_eq_true] at hfl
  refine qmQ h (fun hpre hgi=>hD.2 w _ A.x y vs g i (h.tabsE.keep fun b hb hlt=>⟨.inl (.inl hb),hlt,rfl⟩) k1 hpre hgi hy) k2 k3 k4 k5 (fun b hb=> ?_) (.inl hfl) hnd hdst (fun u hu=>hd u (List.mem_append_right _ (List.mem_append_right _ hu))) hr
  rcases hb with (hb|⟨s,hs,hb,_⟩)|hb
  ·exact .inl hb
  ·exact .inr (.inr ⟨s,hap s hs,hb⟩)
  ·exact .inr (.inl hb)
 ·rw [if_neg hfl] at h2
  obtain ⟨own',q1,q2,q3,q4⟩:=qdo A.ow h h2
  have same:∀s∈A.gone++A.ios,own' s=own s:=fun s hs=>(q3 s fun hm=>hap s hm hs).1
  rw [qb7]
  have k1':qaA C.P w (fun b=>C.free w own' b∨b∈inn) D.ps A.x vs g i:=k1.mono (fun b hb=>hb.imp (q4 b) id) D.ps
  refine qmQ q1 (F:=fun b=>C.free w own' b∨b∈inn) (fun hpre hgi=>hD.2 w _ A.x y vs g i (q1.tabsE.keep fun b hb hlt=>⟨.inl hb,hlt,rfl⟩) k1' hpre hgi hy) (fun b hb=> ?_) k3 (fun s hs=>by rw [qS]; exact k4 s hs) (k5.turn (qS _ _) fun s hs=>same s (List.mem_append_right _ hs)) (fun b hb=> ?_) (.inr fun b hb=>hb) hnd hdst (fun u hu=>by rw [qS]; exact hd u (List.mem_append_right _ (List.mem_append_right _ hu))) hr
  ·obtain ⟨s,hs,hb⟩:=k2 b hb
   exact ⟨s,hs,by rw [same s hs]; exact hb⟩
  ·rcases hb with hb|hb
   ·exact .inl hb
   ·exact .inr (.inl hb)
theorem qox (h:qas C σ a.tmps w own):∀(xs:List Operand) (ts:List Nat) {os:List Op1},(opds E p xs ts).run (qA σ)=some os→∀o1∈os,∀s,o1.s=some s→o1.a≠ .undef→s<σ.length
 |[],_,os,he=>by
  have:=Q.ret_some he
  subst this
  intro o1 ho1
  cases ho1
 |x::xs,ts,os,he=>by
  obtain ⟨o1,h1,he⟩:=Q.bind_some he
  obtain ⟨r,h2,he⟩:=Q.bind_some he
  have:=Q.ret_some he
  subst this
  intro o2 ho2
  rcases List.mem_cons.1 ho2 with rfl|ho2
  ·exact qpk h1
  ·exact qox h xs ts.tail h2 o2 ho2
theorem qvf (h:qas C σ a.tmps w own) (hpt:quV (sit C σ a.tmps w own)) (hFn:qg1 E C.P) {ts us:List Ty} {φ:denL ts→Option (denL us)} {fv:Value} (hfv:qoy C.P w (C.free w own) ts us φ fv) {os:List Op1} {vs:List Value} (ho:qma (sit C σ a.tmps w own) os vs) (hlt:∀o1∈os,∀s,o1.s=some s→o1.a≠ .undef→s<σ.length)
  {f:Eff} (he:(qwT E o ts us φ os).run (qA σ)=some f) (hd:∀u∈f.upd,u.s<σ.length) (hc:qdR f.chk)
  (hr:∀fn caps,fv= .func (.func fn) #[] caps→(∀as w',(callFunc fn as).run C.P w'= .ok (.enter fn as) w')→(execOp a.eval o).run C.P w= .ok (.enter fn (vs.toArray++caps)) w):qes C o a w (qv σ f.upd):=by
 unfold qwT at he
 obtain ⟨A,h1,he⟩:=Q.bind_some he
 obtain ⟨fz,h2,he⟩:=Q.bind_some he
 have:=Q.ret_some he
 subst this
 have hsem:∃y,φ (qvE ts A.x)=some y:=by
  have:=hc _ (List.mem_singleton.2 rfl)
  exact Option.isSome_iff_exists.1 (by rw [qgF] at this; exact this)
 obtain ⟨y,hy⟩:=hsem
 simp only [hy,ql9,Option.getD_some] at hd⊢
 obtain ⟨g,i,inn,k1,⟨k2,k3⟩,k4,k5⟩:=qdI hFn h hpt (valPs ts) ho hlt h1
 obtain ⟨e1,e2,e3⟩:=qmh ts h1
 obtain ⟨k6,rfl,rfl⟩:=qjs ts k1
 obtain ⟨fn,caps,hfv1,hfv2,hfv3⟩:=hfv
 have hio:PMs.ioFlat (valPs ts)=true:=qlm ts
 have hups:qdF (valPs ts) (PMs.ioDflt (valPs ts)) []=[]:=qmP ts _
 have hinn:inn=[]:=(qls ts k5).2.2
 subst hinn
 let D:qs:=⟨valPs ts,valRs us,fun _=>none⟩
 have fin:∀ {σ2:St} {own2:Nat→List Nat} {F:Nat→Prop},qas C σ2 a.tmps w own2→(∀b,C.free w own b→F b)→qek w F ts (qvE ts A.x) vs→(∀b,F b→C.free w own2 b∨b∈[]∨(∃s,s∉[]++[]∧b∈own2 s))→
   ((RMs.flat (valRs us)=true∧PMs.ioFlat (valPs ts)=true)∨∀b,F b→C.free w own2 b∨b∈[])→(∀u∈qcl o (qjo (valRs us) (quT us y)),u.s<σ2.length)→
   qes C o a w (qv σ2 (qcl o (qjo (valRs us) (quT us y)))):=by
  intro σ2 own2 F hst hfr hval hF1 hF2 hd2
  have:=qmQ (D:=D) (f:=fn) (y:=(quT us y,PMs.ioDflt (valPs ts))) (as:=vs.toArray++caps) (gone:=[]) (ios:=[]) (g:=[]) (i:=[]) (inn:=[]) (al:=vs) (F:=F) hst (fun _ _=> ?_) (fun b hb=>by cases hb) (fun _=>List.nodup_nil) (fun s hs=>by cases hs) (qmO ts vs) hF1 hF2 List.nodup_nil (fun d _ hm=>by cases hm) hd2 (hr fn caps hfv1 hfv2)
  ·have e:([]:List Nat).map (fun s=>(⟨s,true,.undef⟩:U))++qdF D.ps (PMs.ioDflt (valPs ts)) []++qcl o (qjo D.rs (quT us y))=qcl o (qjo (valRs us) (quT us y)):=by
    show qdF (valPs ts) (PMs.ioDflt (valPs ts)) []++_=_
    rw [hups]; rfl
   simp only at this
   rw [e] at this
   exact this
  ·refine Calls.mono (hfv3 w F (qvE ts A.x) y vs (fun b hb hlt=>⟨hfr b hb,hlt,rfl⟩) hval hy) ?_
   rintro e w' ⟨rs,rfl,hvs,hk⟩
   have m1:qa7 w' (qjH w F [] [] ([]++[])) (qdA D.rs (quT us y)) rs []:=qkG us (hvs.mono us fun b hb=>⟨hb.elim .inl fun h=> .inr (.inr h),by simp,by simp⟩)
   have m2:qdm w' (qjH w F [] [] ([]++[])) D.ps (PMs.ioDflt (valPs ts)) vs [] []:=qiC ts
   have m0:∀b∈([]:List Nat),(b∈([]:List Nat)∨w.heap.size≤b)∧b<w'.heap.size:=fun b hb=>by cases hb
   exact ⟨_,rfl,rs,[],[],rfl,List.nodup_nil,m0,m1,m2,hk.mono fun _ h=>h.elim⟩
 by_cases hfl:RMs.flat (valRs us)=true
 ·rw [if_pos hfl] at h2
  have:=Q.ret_some h2
  subst this
  refine fin h (fun b hb=> .inl (.inl hb)) k6 (fun b hb=> ?_) (.inl ⟨hfl,hio⟩) hd
  rcases hb with (hb|⟨s,hs,hb,_⟩)|hb
  ·exact .inl hb
  ·exact .inr (.inr ⟨s,by simp,hb⟩)
  ·cases hb
 ·rw [if_neg hfl] at h2
  obtain ⟨own',q1,q2,q3,q4⟩:=qdo A.ow h h2
  rw [qb7]
  refine fin (F:=fun b=>C.free w own' b∨b∈([]:List Nat)) q1 (fun b hb=> .inl (q4 b (.inl hb))) (k6.mono ts fun b hb=>hb.imp (q4 b) id) (fun b hb=>hb.elim .inl fun h=>by cases h) (.inr fun b hb=>hb) (fun u hu=>by rw [qS]; exact hd u (List.mem_append_right _ hu))
theorem qtX (hE:qcc E C.P) (hF:qg1 E C.P) (h:qas C σ a.tmps w own) (hp:qcn (sit C σ a.tmps w own) p) {c:Call} (hop:o.op= .call c) {f:Eff}
  (he:(qeI E p o).run (qA σ)=some f) (hd:∀u∈f.upd,u.s<σ.length) (hc:qdR f.chk):qes C o a w (qv σ f.upd):=by
 unfold qeI at he
 rw [hop] at he
 simp only at he
 split at he
 ·rename_i b hb
  obtain ⟨os,h1,he⟩:=Q.bind_some he
  refine qqW hE h (qoU h hp _ _ h1) (qox h _ _ h1) he hd hc ⟨o.type,(c.args.map fun| .const _=>true|_=>false),?_⟩
  unfold execOp
  rw [hop]
  simp only [resolve,hb,Sem.run_bind,Sem.run_pure,Result.andThen_ok,invoke]
  rw [show c.args.map a.eval=(c.args.toList.map a.eval).toArray from by apply Array.ext'; simp,show c.argTypes.toList.toArray=c.argTypes from by simp]
  rfl
 ·rename_i x hx
  split at he
  ·rename_i fn
   split at he
   ·rename_i D hD
    obtain ⟨os,h1,he⟩:=Q.bind_some he
    refine qvb h hp.1 (hF fn D hD) hF (qoU h hp _ _ h1) (qox h _ _ h1) he hd hc ?_
    unfold execOp
    rw [hop]
    have e1:a.eval (.func fn)= .func (.func fn) #[] #[]:=rfl
    simp only [resolve,hx,e1,Deferred.ofValue,Sem.run_bind,Sem.run_pure,Result.andThen_ok,invoke]
    rw [show c.args.map a.eval=(c.args.toList.map a.eval).toArray from by apply Array.ext'; simp]
    simpa using (hF fn D hD).1 (c.args.toList.map a.eval).toArray w
   ·cases he
  ·rename_i s
   rw [Q.run_get] at he
   have hop1:=qaS h hp (E:=E) (tid:=0) (x:= .tmp s) (o1:=⟨some s,(qA σ s).1,qce p (qA σ s).2⟩) rfl
   split at he
   case h_2=>cases he
   rename_i ts us φ hst
   obtain ⟨os,h1,he⟩:=Q.bind_some he
   have hfv:qoy C.P w (C.free w own) ts us φ (a.eval (.tmp s)):=by
    have:=hop1.unowned (by rw [hst]; rfl)
    rw [hst] at this
    exact this.2
   refine qvf h hp.1 hF hfv (qoU h hp _ _ h1) (qox h _ _ h1) he hd hc fun fn caps hfe henter=> ?_
   unfold execOp
   rw [hop]
   simp only [resolve,hx,hfe,Deferred.ofValue,Sem.run_bind,Sem.run_pure,Result.andThen_ok,invoke]
   rw [show c.args.map a.eval=(c.args.toList.map a.eval).toArray from by apply Array.ext'; simp]
   simpa using henter ((c.args.toList.map a.eval).toArray++caps) w
  ·cases he
 ·cases he
theorem quL (hE:qcc E C.P) (hF:qg1 E C.P) (hpn:∀k∈E.pins,∃b,C.pn k=some b) (h:qas C σ a.tmps w own) (hp:qcn (sit C σ a.tmps w own) p) {f:Eff}
  (he:(qeI E p o).run (qA σ)=some f) (hd:∀u∈f.upd,u.s<σ.length) (hc:qdR f.chk):qes C o a w (qv σ f.upd):=by
 cases hop:o.op with
 |move x=>exact qpb hpn h hp (as:=false) hop he hd hc
 |assign x=>exact qpb hpn h hp (as:=true) hop he hd hc
 |pick c x y=>exact qs5 h hp hop he hd hc
 |alloc t=>exact qsM hE h hp hop he hd hc
 |box t x=>exact qwa hE h hp hop he hd hc
 |build t ps=>exact qsR hE h hp hop he hd hc
 |buildSlice t n ps=>exact qmg hE h hp hop he hd hc
 |load t x=>exact quv hE h hp hop he hd hc
 |store t x y=>exact qsC hE h hp hop he hd hc
 |nilCheck x=>exact qo5 h hp hop he hd hc
 |binOp op t x y b=>exact qsN hE h hp hop he hd hc
 |unOp op t x=>exact qtq h hp hop he hd hc
 |convert s d x=>exact qps hE h hp hop he hd hc
 |slice t x lo hi mx=>
  cases mx with
  |none=>exact qsP hE h hp hop he hd hc
  |some m=>unfold qeI at he; rw [hop] at he; cases he
 |fieldAddr t x f=>exact qnn hE h hp hop he hd hc
 |field t x f=>exact qsA hE h hp hop he hd hc
 |indexAddr t x ix=>exact qnB hE h hp hop he hd hc
 |index t x ix=>exact qsF hE h hp hop he hd hc
 |extract x i=>exact qo8 h hp hop he hd hc
 |makeSlice t x y=>exact qnj hE h hp hop he hd hc
 |call c=>exact qtX hE hF h hp hop he hd hc
 |makeFunc fn first caps=>exact qoE hF h hop he hd
 |makeMap t r=>exact qpF hE h hop he hd
 |lookup t m k ok=>exact qqT hE h hp hop he hd
 |mapUpdate t m k x=>exact qnw hE h hp hop he hd
 |_=>unfold qeI at he; rw [hop] at he; cases he
end
end Go.Vi
namespace Go.Vi
open Go.RowKit
section
variable {C:Ctx} {E:Env} {σ:St} {tm:Array Value} {a:Act} {w w':World} {own:Nat→List Nat} {o:Oper} {p:qh5} [Tabbed E C]
theorem qh7 (h:qas C σ tm w own):∀(n s:Nat) (want:Bool) {p:qh5},(qdZ n s want).run (qA σ)=some p→
  (∃b r,p=(s,(qA σ s).1,want,b)::r)∧(tm.getD s undef= .bool want→(∀q∈p,(sit C σ tm w own).ver q.1=q.2.1∧(sit C σ tm w own).tm q.1= .bool q.2.2.1∧q.2.2.2=q.2.2.1)∧qnm p=true)
 |0,_,_,_,he=>by cases he
 |n+1,s,want,p,he=>by
  simp only [qdZ,Q.run_get] at he
  have hat:=h.at_ s
  split at he
  ·rename_i b hb
   have:=Q.ret_some he
   subst this
   rw [hb] at hat
   have hv:tm.getD s undef= .bool b:=qaN.bool hat.2
   refine ⟨⟨b,[],rfl⟩,fun ht=> ?_⟩
   rw [hv] at ht
   injection ht with ht
   subst ht
   refine ⟨fun q hq=> ?_,by cases b <;> rfl⟩
   simp at hq
   subst hq
   exact ⟨rfl,hv,rfl⟩
  ·rename_i s2 v2 w2 b hb
   obtain ⟨r,h1,he⟩:=Q.bind_some he
   obtain ⟨⟨b3,r3,hr⟩,hp⟩:=qh7 h n s2 w2 h1
   rw [hr] at he
   simp only at he
   split at he
   ·rename_i hv
    have:=Q.ret_some he
    subst this
    rw [hb] at hat
    obtain ⟨g1,g2⟩:=hat.2 hv
    refine ⟨⟨b,_,rfl⟩,fun ht=> ?_⟩
    have hw2:tm.getD s2 undef= .bool w2:=by
     by_cases hc:tm.getD s2 undef= .bool w2
     ·exact hc
     ·have:=g2 hc
      rw [ht] at this
      cases this
    obtain ⟨k1,k2⟩:=hp hw2
    have hv2:tm.getD s undef= .bool b:=qaN.bool (g1 hw2).2
    rw [hv2] at ht
    injection ht with ht
    subst ht
    rw [hr] at k1 k2
    refine ⟨fun q hq=> ?_,?_⟩
    ·rcases List.mem_cons.1 hq with rfl|hq
     ·exact ⟨rfl,hv2,rfl⟩
     ·exact k1 q hq
    ·have e:lit b b=true:=by cases b <;> rfl
     simp only [qnm,e,Bool.true_and]
     simpa [qnm] using k2
   ·cases he
  ·cases he
theorem qji (h:qas C σ tm w own):∀(n s:Nat) (want:Bool) {p:qh5},(qdZ n s want).run (qA σ)=some p→qnm p=true→tm.getD s undef= .bool want
 |0,_,_,_,he,_=>by cases he
 |n+1,s,want,p,he,hc=>by
  simp only [qdZ,Q.run_get] at he
  have hat:=h.at_ s
  split at he
  ·rename_i b hb
   have:=Q.ret_some he
   subst this
   rw [hb] at hat
   have hv:tm.getD s undef= .bool b:=qaN.bool hat.2
   rw [hv]
   cases want <;> cases b <;> simp_all [qnm,lit]
  ·rename_i s2 v2 w2 b hb
   obtain ⟨r,h1,he⟩:=Q.bind_some he
   obtain ⟨⟨b3,r3,hr⟩,hp⟩:=qh7 h n s2 w2 h1
   have ih:=qji h n s2 w2 h1
   rw [hr] at he ih
   simp only at he
   split at he
   ·rename_i hv
    have:=Q.ret_some he
    subst this
    rw [hb] at hat
    have hc2:lit want b=true∧qnm ((s2,(qA σ s2).1,w2,b3)::r3)=true:=by simpa [qnm] using hc
    have hv2:tm.getD s undef= .bool b:=qaN.bool ((hat.2 hv).1 (ih hc2.2)).2
    rw [hv2]
    cases want <;> cases b <;> simp_all [lit]
   ·cases he
  ·cases he
theorem qiI {σ':St} :∀(n s:Nat) (want:Bool) {p:qh5},(qdZ n s want).run (qA σ)=some p→(∀q∈p,qA σ' q.1=qA σ q.1)→(qdZ n s want).run (qA σ')=some p
 |0,_,_,_,he,_=>by cases he
 |n+1,s,want,p,he,hq=>by
  simp only [qdZ,Q.run_get] at he⊢
  split at he
  ·rename_i b hb
   have:=Q.ret_some he
   subst this
   have e:=hq (s,(qA σ s).1,want,b) (by simp)
   simp only at e
   rw [e,hb]
   rfl
  ·rename_i s2 v2 w2 b hb
   obtain ⟨r,h1,he⟩:=Q.bind_some he
   split at he
   ·rename_i s3 v3 w3 b3 r3
    split at he
    ·rename_i hv
     have:=Q.ret_some he
     subst this
     have e:=hq (s,(qA σ s).1,want,b) (by simp)
     simp only at e
     have ih:=qiI n s2 w2 h1 (fun q hm=>hq q (List.mem_cons_of_mem _ hm))
     rw [e,hb]
     simp only [Q.run_bind,ih,Option.bind_some,if_pos hv]
     rfl
    ·cases he
   ·cases he
  ·cases he
theorem qpr:∀(ms:List (Nat×Nat)) {u:Unit},(qrv ms).run (qA σ)=some u→∀m∈ms,m.2≤(qA σ m.1).1
 |[],_,_,m,hm=>by cases hm
 |m::r,u,he,m',hm=>by
  simp only [qrv,Q.run_get] at he
  split at he
  ·rename_i hle
   rcases List.mem_cons.1 hm with rfl|hm
   ·exact hle
   ·exact qpr r he m' hm
  ·cases he
theorem qpn (s:Nat):∀(us:List U) (σ:St),s<σ.length→(qA (qv σ us) s).1=(qA σ s).1+qle s us
 |[],_,_=>rfl
 |u::us,σ,hs=>by
  have ih:=qpn s us (qX σ u) (by rw [qao]; exact hs)
  show (qA (qv (qX σ u) us) s).1=_
  rw [ih]
  by_cases e:u.s=s
  ·subst e
   rw [qT σ u hs]
   cases hb:u.bump
   ·simp [qle,hb]
   ·simp [qle,hb]; omega
  ·rw [qz σ u (fun h=>e h.symm)]
   have e2:(u.s == s)=false:=by simpa using e
   simp [qle,e2]
theorem qlt:(us:List U)→ {σ:St} → {s:Nat} →s∉us.map (·.s)→qA (qv σ us) s=qA σ s
 |[],_,_,_=>rfl
 |u::us,σ,s,h=>by
  simp only [List.map_cons,List.mem_cons,not_or] at h
  exact (qlt us (σ:=qX σ u) h.2).trans (qz _ _ h.1)
def isPb:AV→Prop
 | .pbox _ _ _=>True
 |_=>False
theorem qeG {us:List U} {d:List Nat} {tm':Array Value} {w':World} {own':Nat→List Nat} (h:qas C σ tm w own) (hk:∀s,s∉d→tm'.getD s undef=tm.getD s undef):
  ∀(l:List Nat) {τ:St} {us':List U},τ.length=σ.length→qas C τ tm' w' own'→(∀x,qA τ x=qA (qv σ us) x∨(isPb (qA σ x).2∧isPb (qA τ x).2))→
  (qf5 us d l).run (qA σ)=some us'→(∀u∈us',u.s<σ.length)→qas C (qv τ us') tm' w' own'
 |[],τ,us',hl,hst,hi,he,hd=>by
  have:=Q.ret_some he
  subst this
  exact hst
 |t::r,τ,us',hl,hst,hi,he,hd=>by
  simp only [qf5,Q.run_get] at he
  split at he
  case h_2=>exact qeG h hk r hl hst hi he hd
  rename_i s v off ht
  split at he
  case isFalse=>exact qeG h hk r hl hst hi he hd
  rename_i hcond
  simp only [Bool.and_eq_true,Bool.not_eq_true',bne_iff_ne,ne_eq] at hcond
  obtain ⟨⟨⟨⟨c1,c2⟩,c3⟩,c4⟩,c5⟩:=hcond
  rw [Q.run_get] at he
  split at he
  case h_2=>exact qeG h hk r hl hst hi he hd
  rename_i cc hs
  split at he
  case isFalse=>exact qeG h hk r hl hst hi he hd
  rename_i hv
  obtain ⟨l',h1,he⟩:=Q.bind_some he
  have:=Q.ret_some he
  subst this
  have hsd:s∉d:=by simpa using c3
  have htd:t∉d:=by simpa using c4
  have htl:t<σ.length:=hd _ List.mem_cons_self
  have hsl:s<σ.length:=Classical.byContradiction fun hn=>by
   have:qA σ s=(0,.undef):=by simp only [qA,List.getD_eq_getElem?_getD,List.getElem?_eq_none (Nat.not_lt.1 hn),Option.getD_none]
   rw [this] at hs
   cases hs
  have htu:t∉us.map (·.s):=fun hm=>by
   obtain ⟨u,hu,e⟩:=List.mem_map.1 hm
   have:us.any (fun u=>u.s == t)=true:=List.any_eq_true.2 ⟨u,hu,by simp [e]⟩
   rw [this] at c2
   cases c2
  have hpt:isPb (qA τ t).2:=by
   rcases hi t with e|e
   ·rw [e,qlt us htu,ht]; trivial
   ·exact e.2
  have hown:own' t=[]:=by
   have hr:=hst.rep t (by omega)
   generalize (qA τ t).2=q at hpt hr
   cases q <;> first|exact hpt.elim|exact hr.1
  have hver:(qA τ s).1=(qA σ s).1+qle s us:=by
   rcases hi s with e|e
   ·rw [e]; exact qpn s us σ hsl
   ·rw [hs] at e; exact e.1.elim
  have hptr:∃b,tm'.getD s undef=ptr b 0∧tm'.getD t undef=ptr b off:=by
   have hr:=h.rep t htl
   rw [ht] at hr
   obtain ⟨b,q1,q2⟩:=hr.2 hv
   exact ⟨b,(hk s hsd).trans q1,(hk t htd).trans q2⟩
  have htl':t<τ.length:=by omega
  have eT:qA (qX τ ⟨t,true,.pbox s (v+qle s us) off⟩) t=((qA τ t).1+1,.pbox s (v+qle s us) off):=qT τ ⟨t,true,_⟩ htl'
  have eN:∀x,x≠t→qA (qX τ ⟨t,true,.pbox s (v+qle s us) off⟩) x=qA τ x:=fun x hx=>qz τ ⟨t,true,.pbox s (v+qle s us) off⟩ hx
  refine qeG h hk r (τ:=qX τ ⟨t,true,.pbox s (v+qle s us) off⟩) (by rw [qao]; exact hl) ?_ ?_ h1 (fun u hu=>hd u (List.mem_cons_of_mem _ hu))
  ·refine hst.update (fun x=>x=t) (qao _ _) rfl (fun x hx=>⟨eN x hx,rfl,rfl⟩) (fun x hx=> .inl (by subst hx; rw [eT]; exact Nat.lt_succ_self _)) (qcQ.refl _ _) (fun x hx=>by subst hx; exact htl') (fun x hx=> ?_) (fun x y b hx hy _ _=>hx.trans hy.symm) (fun x hx=> ?_) (fun x hx m hm=> ?_)
   ·subst hx; rw [hown]; exact ⟨fun b hb=>(by cases hb),List.nodup_nil⟩
   ·subst hx
    rw [eT,hown]
    exact ⟨rfl,fun _=>hptr⟩
   ·subst hx
    rw [eT] at hm
    simp only [AV.mentions,List.mem_singleton] at hm
    subst hm
    rw [eN s c5,hver,hv]
    exact Nat.le_refl _
  ·intro x
   by_cases hx:x=t
   ·subst hx
    exact .inr ⟨by rw [ht]; trivial,by rw [eT]; trivial⟩
   ·rw [eN x hx]; exact hi x
theorem qr6 (h:qas C σ a.tmps w own) {f0 f:Eff} (hok:(∀u∈f0.upd,u.s<σ.length)→qdR f0.chk→qes C o a w (qv σ f0.upd)) (he:(qnd E o f0).run (qA σ)=some f) (hd:∀u∈f.upd,u.s<σ.length) (hc:qdR f.chk):qes C o a w (qv σ f.upd):=by
 unfold qnd at he
 split at he
 ·have:=Q.ret_some he
  subst this
  exact hok hd hc
 split at he
 case isFalse=>
  have:=Q.ret_some he
  subst this
  exact hok hd hc
 obtain ⟨us,h1,he⟩:=Q.bind_some he
 have:=Q.ret_some he
 subst this
 intro K Q1 hK
 refine hok (fun u hu=>hd u (List.mem_append_left _ hu)) hc K Q1 fun a' w' own' hde hst=>hK a' w' own' hde ?_
 rw [qb7]
 exact qeG h (fun s hs=>hde.2 s (fun e=>hs (by simp [e]))) _ (qS _ _) hst (fun x=> .inl rfl) h1 fun u hu=>hd u (List.mem_append_right _ hu)
def GOpOk (C:Ctx) (ops:Array Oper) (o:Oper) (a:Act) (w:World) (τ:St):Prop:=
 ∀(K:Act→World→Prop) (Q:Exit→Act→World→Prop),(∀a' w' own',qu4 o a a'→qas C τ a'.tmps w' own'→K a' w')→
  if Region.wanted o (yielded ops a.tmps) then o.wp C.P a w K Q else K (a.put o.dst undef) w
theorem qsK {ops:Array Oper} {j d:Nat} (hj:(ops[j]?).bind (·.dst)=some d) {tm:Array Value} (want:Bool):(yielded ops tm j=some want)↔tm.getD d undef= .bool want:=by
 unfold yielded
 rw [hj]
 simp only [Option.bind_some]
 cases hd:tm[d]? with
 |none=>
  have:tm.getD d undef=undef:=by simp [Array.getD_eq_getD_getElem?,hd]
  rw [this]
  simp [undef]
 |some v=>
  have:tm.getD d undef=v:=by simp [Array.getD_eq_getD_getElem?,hd]
  rw [this]
  cases v <;> simp
theorem qpD (hE:qcc E C.P) {pin:List Nat} (hF:qpU E C pin) (hpc:quR C a.tmps) (h:qas C σ a.tmps w own) {ops:Array Oper} {g:Option (Nat×Bool)} (hg:qgK ops o=some g) {f:Eff}
  (he:(qgP E g o).run (qA σ)=some f) (hd:∀u∈f.upd,u.s<σ.length) (hc:qdR f.chk):GOpOk C ops o a w (qv σ f.upd):=by
 intro K Q1 hK
 unfold qgK at hg
 split at hg
 ·rename_i hgd
  injection hg with hg
  subst hg
  have hw:Region.wanted o (yielded ops a.tmps)=true:=by simp [Region.wanted,hgd]
  rw [if_pos hw]
  obtain ⟨f0,h0,he⟩:=Q.bind_some he
  exact qr6 h (fun hd hc=>quL hE hF.fns hF.pins h ⟨hpc,fun q hq=>by cases hq⟩ h0 hd hc) he hd hc K Q1 hK
 ·rename_i j want hgd
  split at hg
  case h_2=>cases hg
  rename_i s hj
  injection hg with hg
  subst hg
  have hw:Region.wanted o (yielded ops a.tmps)=true↔a.tmps.getD s undef= .bool want:=by
   rw [←qsK hj want]
   simp [Region.wanted,hgd]
  obtain ⟨pth,h1,he⟩:=Q.bind_some he
  obtain ⟨f1,h2,he⟩:=Q.bind_some he
  obtain ⟨⟨b',r',hp⟩,hpo⟩:=qh7 h 8 s want h1
  subst hp
  split at he
  case h_2=>cases he
  rename_i d av d' s1 v1 w1 b1 r1 hupd hdst hpath
  simp only [List.cons.injEq,Prod.mk.injEq] at hpath
  obtain ⟨⟨rfl,rfl,rfl,rfl⟩,rfl⟩:=hpath
  split at he
  case isFalse=>cases he
  rename_i hcond
  obtain ⟨hdd,hun,hnu,hpa⟩:=hcond
  subst hdd
  obtain ⟨_,hm0,he⟩:=Q.bind_some he
  have:=Q.ret_some he
  subst this
  have hms:=qpr _ hm0
  have hdl:d<σ.length:=hd _ (List.mem_singleton.2 rfl)
  have hpd:∀q∈(s,(qA σ s).1,want,b')::r',q.1≠d:=fun q hq=>by
   have:=List.all_eq_true.1 hpa q hq
   simpa using this
  have hsd:s≠d:=hpd _ List.mem_cons_self
  by_cases hwant:Region.wanted o (yielded ops a.tmps)=true
  ·rw [if_pos hwant]
   have ht:=hw.1 hwant
   obtain ⟨k1,k2⟩:=hpo ht
   have hc1:qdR f1.chk:=by
    intro x hx
    have:=hc (!(qnm ((s,(qA σ s).1,want,b')::r'))||x) (List.mem_map.2 ⟨x,hx,rfl⟩)
    rw [k2] at this
    simpa using this
   have hd1:∀u∈f1.upd,u.s<σ.length:=by rw [hupd]; intro u hu; simp at hu; rw [hu]; exact hdl
   have hok:=quL hE hF.fns hF.pins h ⟨hpc,k1⟩ h2 hd1 hc1
   rw [hupd] at hok
   refine hok K Q1 fun a' w' own0 hde hst0=> ?_
   have eA0:qA (qv σ [⟨d,true,av⟩]) d=((qA σ d).1+1,av):=qT σ ⟨d,true,av⟩ hdl
   obtain ⟨own',hst,_,_,_⟩:=hst0.freeze d
   rw [eA0] at hst
   generalize hτ:qX (qv σ [⟨d,true,av⟩]) ⟨d,false,av.freeze⟩=τ at hst
   have hlen:τ.length=σ.length:=by rw [←hτ,qao,qS]
   have eA:qA τ d=((qA σ d).1+1,av.freeze):=by
    rw [←hτ,qT (qv σ [⟨d,true,av⟩]) ⟨d,false,av.freeze⟩ (by rw [qS]; exact hdl),eA0]
    rfl
   have eA1:∀x,x≠d→qA τ x=qA σ x:=fun x hx=>by
    rw [←hτ,qz _ _ hx]
    exact qz σ ⟨d,true,av⟩ hx
   have eB:qA (qv σ [⟨d,true,.grd s (qA σ s).1 want av.freeze⟩]) d=((qA σ d).1+1,.grd s (qA σ s).1 want av.freeze):=qT σ ⟨d,true,_⟩ hdl
   have eN:∀x,x≠d→qA (qv σ [⟨d,true,.grd s (qA σ s).1 want av.freeze⟩]) x=qA τ x:=fun x hx=>by
    rw [eA1 x hx]
    exact qz σ ⟨d,true,.grd s (qA σ s).1 want av.freeze⟩ hx
   have eV:∀x,(qA (qv σ [⟨d,true,.grd s (qA σ s).1 want av.freeze⟩]) x).1=(qA τ x).1:=fun x=>by
    by_cases hx:x=d
    ·subst hx; rw [eA,eB]
    ·rw [eN x hx]
   have hsure:a'.tmps.getD s undef= .bool want:=qji hst 8 s want (qiI 8 s want h1 fun q hq=>eA1 q.1 (hpd q hq)) k2
   have hat:=hst.at_ d
   rw [eA] at hat
   have hbs:own' d=[]∧qaO (sit C τ a'.tmps w' own') av.freeze (a'.tmps.getD d undef) []:=by
    refine ⟨?_,hat.unowned hun⟩
    generalize av.freeze=fv at hun hnu hat
    cases fv with
    |undef=>cases hnu
    |own _ _ _=>cases hun
    |agg _=>cases hun
    |box _=>cases hun
    |tup _=>cases hun
    |mp _ _ _=>cases hun
    |_=>exact hat.1
   have kp:∀ {av':AV} {v:Value} {bs:List Nat},qaO (sit C τ a'.tmps w' own') av' v bs→qaO (sit C (qv σ [⟨d,true,.grd s (qA σ s).1 want av.freeze⟩]) a'.tmps w' own') av' v bs:=fun hr=>
    qaO.keep (X:=sit C τ a'.tmps w' own') (X':=sit C (qv σ [⟨d,true,.grd s (qA σ s).1 want av.freeze⟩]) a'.tmps w' own') ⟨rfl,rfl⟩ (fun b hb hlt=>⟨hb,hlt,rfl⟩) (fun _ _ _=>rfl) (fun m _ hv=>⟨(eV m.1).symm.trans hv,rfl,fun b hb _=>⟨hb,rfl⟩⟩) hr
   refine hK a' w' own' hde ⟨by rw [hst.size,hlen,qS],hst.kept,hst.mine,hst.nodup,hst.apart,fun x hx=>hst.outside x (by rw [qS] at hx; rw [hlen]; exact hx),fun x hx=> ?_,fun x m hm=> ?_⟩
   ·by_cases hxd:x=d
    ·subst hxd
     rw [eB,hbs.1]
     exact ⟨rfl,fun _=>⟨fun _=>kp hbs.2,fun hn=>absurd hsure hn⟩⟩
    ·rw [eN x hxd]
     exact kp (hst.rep x (by rw [qS] at hx; rw [hlen]; exact hx))
   ·rw [eV]
    by_cases hxd:x=d
    ·subst hxd
     rw [eB] at hm
     rcases List.mem_cons.1 hm with rfl|hm
     ·rw [eA1 s hsd]
      exact Nat.le_refl _
     ·exact hst.wf x m (by rw [eA]; exact hm)
    ·rw [eN x hxd] at hm
     exact hst.wf x m hm
  ·rw [if_neg hwant]
   have hnt:¬a.tmps.getD s undef= .bool want:=fun e=>hwant (hw.2 e)
   have hdu:qcl o (.grd s (qA σ s).1 want av.freeze)=[⟨d,true,.grd s (qA σ s).1 want av.freeze⟩]:=by unfold qcl; rw [hdst]
   obtain ⟨own',hst⟩:=h.dst0 (o:=o) (av:= .grd s (qA σ s).1 want av.freeze) (v:=undef) (by rw [hdu]; exact hd) ⟨rfl,fun _=>⟨fun e=>absurd e hnt,fun _=>rfl⟩⟩ (fun m hm=>by
    rcases List.mem_cons.1 hm with rfl|hm
    ·exact Nat.le_refl _
    ·exact hms m hm)
   rw [hdu] at hst
   exact hK _ _ own' (qiy o a _) hst
end
end Go.Vi
namespace Go.Vi
open Go.RowKit
section
variable {C:Ctx} {E:Env} {σ τ:St} {tm:Array Value} {a:Act} {w w':World} {own:Nat→List Nat} {o:Oper} {p:qh5} [Tabbed E C]
theorem qas.retag (h:qas C σ tm w own) (hl:τ.length=σ.length) (B:Nat→Prop) (hsame:∀s,¬B s→qA τ s=qA σ s)
  (hB:∀s,B s→(qA τ s).2.mentions=[]∧∀v,qaO (sit C σ tm w own) (qA σ s).2 v (own s)→qaO (sit C σ tm w own) (qA τ s).2 v (own s))
  (hv:∀s m,¬B s→m∈(qA σ s).2.mentions→B m.1→m.2<(qA τ m.1).1):qas C τ tm w own:=by
 refine ⟨by rw [hl]; exact h.size,h.kept,h.mine,h.nodup,h.apart,fun s hs=>h.outside s (by omega),fun s hs=> ?_,fun s m hm=> ?_⟩
 ·have hr:=h.rep s (by omega)
  by_cases hb:B s
  ·obtain ⟨k1,k2⟩:=hB s hb
   exact qaO.keep (X:=sit C σ tm w own) (X':=sit C τ tm w own) ⟨rfl,rfl⟩ (fun b hb hlt=>⟨hb,hlt,rfl⟩) (fun _ _ _=>rfl) (fun m hm=>by rw [k1] at hm; cases hm) (k2 _ hr)
  ·rw [hsame s hb]
   refine qaO.keep (X:=sit C σ tm w own) (X':=sit C τ tm w own) ⟨rfl,rfl⟩ (fun b hb hlt=>⟨hb,hlt,rfl⟩) (fun _ _ _=>rfl) (fun m hm hv'=> ?_) hr
   have hv':(qA τ m.1).1=m.2:=hv'
   by_cases hbm:B m.1
   ·have:=hv s m hb hm hbm
    omega
   ·rw [hsame m.1 hbm] at hv'
    exact ⟨hv',rfl,fun b hb _=>⟨hb,rfl⟩⟩
 ·by_cases hb:B s
  ·rw [(hB s hb).1] at hm; cases hm
  ·rw [hsame s hb] at hm
   by_cases hbm:B m.1
   ·exact Nat.le_of_lt (hv s m hb hm hbm)
   ·rw [hsame m.1 hbm]
    exact h.wf s m hm
theorem qgY {F:Nat→Prop} (b:Bool): {x y r:BC} → {cs:List Value} → {bs:List Nat} →qgX.joinB b x y=some r→qa5 w F (bif b then x else y) cs bs→qa5 w F r cs bs
 | .val t x,.val u y,r,cs,bs,hj,h=>by
  simp only [qgX.joinB] at hj
  split at hj
  ·rename_i z hz
   injection hj with hj
   subst hj
   obtain ⟨e1,e2⟩:=Ty.as_some hz
   subst e1
   have e2:y=z:=e2
   subst e2
   cases b <;> exact h
  ·cases hj
 | .own et e xs,.own et' e' ys,r,cs,bs,hj,h=>by
  simp only [qgX.joinB] at hj
  split at hj
  ·rename_i het
   subst het
   split at hj
   ·rename_i z hz
    injection hj with hj
    subst hj
    obtain ⟨e1,e2⟩:=Ty.as_some hz
    injection e1 with e1
    subst e1
    have e2:ys=z:=e2
    subst e2
    cases b <;> exact h
   ·cases hj
  ·cases hj
 | .pair c d,.pair c' d',r,cs,bs,hj,h=>by
  simp only [qgX.joinB] at hj
  split at hj
  ·rename_i r1 r2 h1 h2
   split at hj
   ·injection hj with hj
    subst hj
    cases b
    ·obtain ⟨c1,c2,b1,b2,k1,k2,k3,k4⟩:=h
     exact ⟨c1,c2,b1,b2,k1,k2,qgY false h1 k3,qgY false h2 k4⟩
    ·obtain ⟨c1,c2,b1,b2,k1,k2,k3,k4⟩:=h
     exact ⟨c1,c2,b1,b2,k1,k2,qgY true h1 k3,qgY true h2 k4⟩
   ·cases hj
  ·cases hj
 | .hole n,.hole m,r,cs,bs,hj,h=>by
  simp only [qgX.joinB] at hj
  split at hj
  ·rename_i hnm
   injection hj with hj
   subst hj; subst hnm
   cases b <;> exact h
  ·cases hj
 | .val _ _,.own _ _ _,_,_,_,hj,_=>by cases hj
 | .val _ _,.pair _ _,_,_,_,hj,_=>by cases hj
 | .val _ _,.hole _,_,_,_,hj,_=>by cases hj
 | .own _ _ _,.val _ _,_,_,_,hj,_=>by cases hj
 | .own _ _ _,.pair _ _,_,_,_,hj,_=>by cases hj
 | .own _ _ _,.hole _,_,_,_,hj,_=>by cases hj
 | .pair _ _,.val _ _,_,_,_,hj,_=>by cases hj
 | .pair _ _,.own _ _ _,_,_,_,hj,_=>by cases hj
 | .pair _ _,.hole _,_,_,_,hj,_=>by cases hj
 | .hole _,.val _ _,_,_,_,hj,_=>by cases hj
 | .hole _,.own _ _ _,_,_,_,hj,_=>by cases hj
 | .hole _,.pair _ _,_,_,_,hj,_=>by cases hj
theorem qnH {X:Sit} (b:Bool) {x y:AV} {v:Value} {bs:List Nat} (h:qaO X (bif b then x else y) v bs):qaO X (qgX b x y) v bs∧(qgX b x y).mentions=[]:=by
 unfold qgX
 split
 ·rename_i t x u y
  split
  ·rename_i z hz
   obtain ⟨e1,e2⟩:=Ty.as_some hz
   subst e1
   have e2:y=z:=e2
   subst e2
   refine ⟨?_,rfl⟩
   cases b <;> exact h
  ·exact ⟨trivial,rfl⟩
 ·rename_i et e xs et' e' ys
  split
  ·rename_i het
   subst het
   split
   ·rename_i z hz
    obtain ⟨e1,e2⟩:=Ty.as_some hz
    injection e1 with e1
    subst e1
    have e2:ys=z:=e2
    subst e2
    refine ⟨?_,rfl⟩
    cases b <;> exact h
   ·exact ⟨trivial,rfl⟩
  ·exact ⟨trivial,rfl⟩
 ·rename_i c d
  split
  ·rename_i r hr
   refine ⟨?_,rfl⟩
   cases b
   ·obtain ⟨b0,cs,bs',te,k1,k2,k3,k4⟩:=h
    exact ⟨b0,cs,bs',te,k1,k2,qgY false hr k3,k4⟩
   ·obtain ⟨b0,cs,bs',te,k1,k2,k3,k4⟩:=h
    exact ⟨b0,cs,bs',te,k1,k2,qgY true hr k3,k4⟩
  ·exact ⟨trivial,rfl⟩
 ·rename_i k t xs k' t' ys
  split
  ·rename_i het
   obtain ⟨e1,e2⟩:=het
   subst e1
   subst e2
   refine ⟨?_,rfl⟩
   cases b <;> exact h
  ·exact ⟨trivial,rfl⟩
 ·rename_i et e et' e' ys
  split
  ·rename_i het
   subst het
   split
   ·rename_i z hz
    obtain ⟨e1,e2⟩:=Ty.as_some hz
    injection e1 with e1
    subst e1
    have e2:ys=z:=e2
    subst e2
    refine ⟨?_,rfl⟩
    cases b
    ·exact h
    ·obtain ⟨rfl,rfl⟩:=h
     exact qak.nil_ _ _ _ _
   ·exact ⟨trivial,rfl⟩
  ·exact ⟨trivial,rfl⟩
 ·rename_i et e xs et' e'
  split
  ·rename_i het
   obtain ⟨rfl,rfl⟩:=het
   refine ⟨?_,rfl⟩
   cases b
   ·obtain ⟨rfl,rfl⟩:=h
    exact qak.nil_ _ _ _ _
   ·exact h
  ·exact ⟨trivial,rfl⟩
 ·rename_i et e et' e'
  split
  ·rename_i het
   obtain ⟨rfl,rfl⟩:=het
   refine ⟨?_,rfl⟩
   cases b <;> exact h
  ·exact ⟨trivial,rfl⟩
 ·rename_i e xs e' ys
  split
  ·rename_i z hz
   obtain ⟨e1,e2⟩:=Ty.as_some hz
   injection e1 with e1
   subst e1
   have e2:ys=z:=e2
   subst e2
   refine ⟨?_,rfl⟩
   cases b <;> exact h
  ·exact ⟨trivial,rfl⟩
 ·rename_i e xs e' ys
  split
  ·rename_i z hz
   obtain ⟨e1,e2⟩:=Ty.as_some hz
   injection e1 with e1
   subst e1
   have e2:ys=z:=e2
   subst e2
   refine ⟨?_,rfl⟩
   cases b
   ·exact h
   ·exact ⟨h.1,h.2.1⟩
  ·exact ⟨trivial,rfl⟩
 ·rename_i e xs e' ys
  split
  ·rename_i z hz
   obtain ⟨e1,e2⟩:=Ty.as_some hz
   injection e1 with e1
   subst e1
   have e2:ys=z:=e2
   subst e2
   refine ⟨?_,rfl⟩
   cases b
   ·exact ⟨h.1,h.2.1⟩
   ·exact h
  ·exact ⟨trivial,rfl⟩
 ·exact ⟨trivial,rfl⟩
theorem BC.toVal_rep {F:Nat→Prop} :(t:Ty)→ {c:BC} → {x:t.den} → {cs:List Value} → {bs:List Nat} →c.toVal t=some x→qa5 w F c cs bs→qa5 w F (.val t x) cs bs
 |t,.val u y,x,cs,bs,hs,h=>by
  have hs:Ty.as (t:=u) t y=some x:=by cases t <;> exact hs
  exact ⟨h.1,h.2.as hs⟩
 | .pair a b,.pair c d,x,cs,bs,hs,h=>by
  simp only [BC.toVal] at hs
  split at hs
  ·rename_i y z h1 h2
   injection hs with hs
   subst hs
   obtain ⟨c1,c2,b1,b2,k1,k2,k3,k4⟩:=h
   have r1:=BC.toVal_rep a h1 k3
   have r2:=BC.toVal_rep b h2 k4
   exact ⟨by rw [k2,r1.1,r2.1]; rfl,c1,c2,k1,r1.2,r2.2⟩
  ·cases hs
 |t,.own _ _ _,x,cs,bs,hs,h=>by cases t <;> cases hs
 |t,.hole _,x,cs,bs,hs,h=>by cases t <;> cases hs
 | .int _,.pair _ _,x,cs,bs,hs,h=>by cases hs
 | .bool,.pair _ _,x,cs,bs,hs,h=>by cases hs
 | .str,.pair _ _,x,cs,bs,hs,h=>by cases hs
 | .unit,.pair _ _,x,cs,bs,hs,h=>by cases hs
 | .slice _,.pair _ _,x,cs,bs,hs,h=>by cases hs
 | .arr _ _,.pair _ _,x,cs,bs,hs,h=>by cases hs
theorem BC.toShape_rep {F:Nat→Prop} :(s:qcY)→ {c:BC} → {x:s.den} → {cs:List Value} → {bs:List Nat} →c.toShape s=some x→qa5 w F c cs bs→qa5 w F (s.un x) cs bs
 | .val t,c,x,cs,bs,hs,h=>by
  exact BC.toVal_rep t hs h
 | .own et e,.own et' e' xs,x,cs,bs,hs,h=>by
  simp only [BC.toShape] at hs
  split at hs
  ·rename_i het
   subst het
   obtain ⟨e1,e2⟩:=Ty.as_some hs
   injection e1 with e1
   subst e1
   have e2:xs=x:=e2
   subst e2
   exact h
  ·cases hs
 | .pair a b,.pair c d,x,cs,bs,hs,h=>by
  simp only [BC.toShape] at hs
  split at hs
  ·rename_i y z h1 h2
   injection hs with hs
   subst hs
   obtain ⟨c1,c2,b1,b2,k1,k2,k3,k4⟩:=h
   exact ⟨c1,c2,b1,b2,k1,k2,BC.toShape_rep a h1 k3,BC.toShape_rep b h2 k4⟩
  ·cases hs
 | .hole n,.hole m,x,cs,bs,hs,h=>by
  simp only [BC.toShape] at hs
  split at hs
  ·rename_i hnm
   subst hnm
   exact h
  ·cases hs
 | .own _ _,.val _ _,_,_,_,hs,_=>by cases hs
 | .own _ _,.pair _ _,_,_,_,hs,_=>by cases hs
 | .own _ _,.hole _,_,_,_,hs,_=>by cases hs
 | .pair _ _,.val _ _,_,_,_,hs,_=>by cases hs
 | .pair _ _,.own _ _ _,_,_,_,hs,_=>by cases hs
 | .pair _ _,.hole _,_,_,_,hs,_=>by cases hs
 | .hole _,.val _ _,_,_,_,hs,_=>by cases hs
 | .hole _,.own _ _ _,_,_,_,hs,_=>by cases hs
 | .hole _,.pair _ _,_,_,_,hs,_=>by cases hs
theorem AV.toShape_rep {X:Sit} (s:qfk) {av:AV} {x:s.den} {v:Value} {bs:List Nat} (hs:av.toShape s=some x) (h:qaO X av v bs):qaO X (s.un x) v bs∧(s.un x).mentions=[]:=by
 cases s with
 |val t=>
  cases av with
  |val u y=>exact ⟨⟨h.1,h.2.as hs⟩,rfl⟩
  |_=>cases hs
 |own et e=>
  cases av with
  |own et' e' xs=>
   simp only [AV.toShape] at hs
   split at hs
   ·rename_i het
    subst het
    obtain ⟨e1,e2⟩:=Ty.as_some hs
    injection e1 with e1
    subst e1
    have e2:xs=x:=e2
    subst e2
    exact ⟨h,rfl⟩
   ·cases hs
  |_=>cases hs
 |box b=>
  cases av with
  |box c=>
   obtain ⟨b0,cs,bs',te,k1,k2,k3,k4⟩:=h
   exact ⟨⟨b0,cs,bs',te,k1,k2,BC.toShape_rep b hs k3,k4⟩,rfl⟩
  |_=>cases hs
 |mp k t=>
  cases av with
  |mp k' t' xs=>
   simp only [AV.toShape] at hs
   split at hs
   ·rename_i het
    obtain ⟨e1,e2⟩:=het
    subst e1
    subst e2
    injection hs with hs
    subst hs
    exact ⟨h,rfl⟩
   ·cases hs
  |_=>cases hs
theorem qiV (σ:St) (s:Nat) (e:Ent) (x:Nat):qA (σ.set s e) x=if x=s∧s<σ.length then e else qA σ x:=by
 unfold qA
 simp only [List.getD_eq_getElem?_getD,List.getElem?_set]
 by_cases hx:s=x
 ·subst hx
  by_cases hl:s<σ.length
  ·simp [hl]
  ·simp [hl]
 ·simp [hx]
  intro e1
  exact absurd e1.symm hx
theorem qmk:(wr:List Nat)→(σ:St)→(wr.foldl (fun σ s=>σ.set s ((qA σ s).1+1,.undef)) σ).length=σ.length∧
  ∀x,(x∈wr∧x<σ.length→(qA σ x).1<(qA (wr.foldl (fun σ s=>σ.set s ((qA σ s).1+1,.undef)) σ) x).1∧(qA (wr.foldl (fun σ s=>σ.set s ((qA σ s).1+1,.undef)) σ) x).2= .undef)∧
   (¬(x∈wr∧x<σ.length)→qA (wr.foldl (fun σ s=>σ.set s ((qA σ s).1+1,.undef)) σ) x=qA σ x)
 |[],σ=>⟨rfl,fun x=>⟨fun h=>(by cases h.1),fun _=>rfl⟩⟩
 |s::wr,σ=>by
  obtain ⟨h1,h2⟩:=qmk wr (σ.set s ((qA σ s).1+1,.undef))
  rw [List.foldl_cons]
  refine ⟨by rw [h1]; simp,fun x=> ?_⟩
  obtain ⟨k1,k2⟩:=h2 x
  rw [List.length_set] at k1 k2
  by_cases hx:x∈wr∧x<σ.length
  ·refine ⟨fun _=> ?_,fun hn=>absurd ⟨List.mem_cons_of_mem _ hx.1,hx.2⟩ hn⟩
   obtain ⟨g1,g2⟩:=k1 hx
   refine ⟨Nat.lt_of_le_of_lt ?_ g1,g2⟩
   rw [qiV]
   split
   ·rename_i h; rw [h.1]; exact Nat.le_succ _
   ·exact Nat.le_refl _
  ·rw [k2 hx]
   rw [qiV]
   by_cases hs:x=s∧s<σ.length
   ·rw [if_pos hs]
    refine ⟨fun _=>⟨by rw [hs.1]; exact Nat.lt_succ_self _,rfl⟩,fun hn=>absurd ⟨by rw [hs.1]; exact List.mem_cons_self,by rw [hs.1]; exact hs.2⟩ hn⟩
   ·rw [if_neg hs]
    refine ⟨fun hn=> ?_,fun _=>rfl⟩
    rcases List.mem_cons.1 hn.1 with rfl|hm
    ·exact absurd ⟨rfl,hn.2⟩ hs
    ·exact absurd ⟨hm,hn.2⟩ hx
theorem qmE:(l:List (Nat×qfk))→(x:liveDen l)→(σ:St)→(l.map (·.1)).Nodup→(qgj l x σ).length=σ.length∧(∀s,s∉l.map (·.1)→qA (qgj l x σ) s=qA σ s)∧
  ∀(τ:St),qqt l τ=some x→∀s,s∈l.map (·.1)→s<σ.length→(qA (qgj l x σ) s).1=(qA σ s).1∧∀X v bs,qaO X (qA τ s).2 v bs→qaO X (qA (qgj l x σ) s).2 v bs∧(qA (qgj l x σ) s).2.mentions=[]
 |[],_,σ,_=>⟨rfl,fun _ _=>rfl,fun _ _ s hs=>by cases hs⟩
 |p::r,x,σ,hn=>by
  have hn:=List.nodup_cons.1 hn
  obtain ⟨h1,h2,h3⟩:=qmE r x.2 (σ.set p.1 ((qA σ p.1).1,p.2.un x.1)) hn.2
  refine ⟨by simp only [qgj]; rw [h1]; simp,fun s hs=> ?_,fun τ hp s hs hl=> ?_⟩
  ·have hs':s≠p.1∧s∉r.map (·.1):=by simpa using hs
   simp only [qgj]
   rw [h2 s hs'.2,qiV,if_neg (fun h=>hs'.1 h.1)]
  ·simp only [qqt] at hp
   split at hp
   case h_2=>cases hp
   rename_i y z e1 e2
   injection hp with hp
   subst hp
   simp only [qgj]
   by_cases hsp:s=p.1
   ·subst hsp
    rw [h2 _ hn.1,qiV,if_pos ⟨rfl,hl⟩]
    exact ⟨rfl,fun X v bs h=>AV.toShape_rep p.2 e1 h⟩
   ·have hsr:s∈r.map (·.1):=by
     rcases List.mem_cons.1 hs with e|e
     ·exact absurd e hsp
     ·exact e
    obtain ⟨g1,g2⟩:=h3 τ e2 s hsr (by rw [List.length_set]; exact hl)
    rw [qiV,if_neg (fun h=>hsp h.1)] at g1
    exact ⟨g1,g2⟩
def Fr (wr:List Nat) (σ σ':St):Prop:=σ'.length=σ.length∧∀s,s∉wr→qA σ' s=qA σ s
theorem qpd {A:qoq} (hlive:∀q∈A.live,q.1∈A.wr) (hn:(A.live.map (·.1)).Nodup) (x:liveDen A.live):Fr A.wr σ (qgt A σ x):=by
 obtain ⟨h1,h2⟩:=qmk A.wr σ
 obtain ⟨k1,k2,_⟩:=qmE A.live x (A.wr.foldl (fun σ s=>σ.set s ((qA σ s).1+1,.undef)) σ) hn
 refine ⟨k1.trans h1,fun s hs=> ?_⟩
 rw [qgt,k2 s fun hm=>by
  obtain ⟨q,hq,e⟩:=List.mem_map.1 hm
  exact hs (e ▸ hlive q hq)]
 exact (h2 s).2 fun h=>hs h.1
theorem qas.head (h:qas C τ tm w own) {A:qoq} (hlive:∀q∈A.live,q.1∈A.wr) (hn:(A.live.map (·.1)).Nodup) (hwf:∀s,∀m∈(qA σ s).2.mentions,m.2≤(qA σ m.1).1) (hfr:Fr A.wr σ τ) {x:liveDen A.live} (hx:qqt A.live τ=some x):
  qas C (qgt A σ x) tm w own:=by
 obtain ⟨h1,h2⟩:=qmk A.wr σ
 obtain ⟨k1,k2,k3⟩:=qmE A.live x (A.wr.foldl (fun σ s=>σ.set s ((qA σ s).1+1,.undef)) σ) hn
 have hver:∀s,s∈A.wr→s<σ.length→(qA σ s).1<(qA (qgt A σ x) s).1:=by
  intro s hs hl
  by_cases hm:s∈A.live.map (·.1)
  ·rw [qgt,(k3 τ hx s hm (by rw [h1]; exact hl)).1]
   exact ((h2 s).1 ⟨hs,hl⟩).1
  ·rw [qgt,k2 s hm]
   exact ((h2 s).1 ⟨hs,hl⟩).1
 refine h.retag ((k1.trans h1).trans hfr.1.symm) (fun s=>s∈A.wr∧s<σ.length) (fun s hs=> ?_) (fun s hs=> ?_) (fun s m hs hm hb=> ?_)
 ·by_cases hw:s∈A.wr
  ·have hl:¬s<σ.length:=fun hl=>hs ⟨hw,hl⟩
   have e1:qA (qgt A σ x) s=(0,.undef):=by simp [qA,List.getD,List.getElem?_eq_none (show (qgt A σ x).length≤s by rw [qgt,k1,h1]; omega)]
   have e2:qA τ s=(0,.undef):=by simp [qA,List.getD,List.getElem?_eq_none (show τ.length≤s by rw [hfr.1]; omega)]
   rw [e1,e2]
  ·rw [(qpd hlive hn x).2 s hw,hfr.2 s hw]
 ·by_cases hm:s∈A.live.map (·.1)
  ·obtain ⟨_,g⟩:=k3 τ hx s hm (by rw [h1]; exact hs.2)
   refine ⟨?_,fun v hv=>(g _ v _ hv).1⟩
   have hat:=h.at_ s
   exact (g _ _ _ hat).2
  ·rw [qgt,k2 s hm,((h2 s).1 hs).2]
   exact ⟨rfl,fun _ _=>trivial⟩
 ·have e:qA τ s=qA σ s:=by
   by_cases hw:s∈A.wr
   ·have hl:¬s<σ.length:=fun hl=>hs ⟨hw,hl⟩
    have e1:qA σ s=(0,.undef):=by simp [qA,List.getD,List.getElem?_eq_none (show σ.length≤s by omega)]
    have e2:qA τ s=(0,.undef):=by simp [qA,List.getD,List.getElem?_eq_none (show τ.length≤s by rw [hfr.1]; omega)]
    rw [e1,e2]
   ·exact hfr.2 s hw
  rw [e] at hm
  exact Nat.lt_of_le_of_lt (hwf s m hm) (hver m.1 hb.1 hb.2)
end
end Go.Vi
namespace Go.Vi
open Go.RowKit
def qcH (S:Nat→Bool):Nat→List qe8→St→St
 |_,[],σ=>σ
 |i,f::r,σ=>qcH S (i+1) r (if S i then qv σ f.us else σ)
def qeX (l:List qe8) (σ:St):St:=l.foldl (fun σ f=>qv σ f.us) σ
theorem qb6 (S:Nat→Bool):(l:List qe8)→(i:Nat)→(σ:St)→(qcH S i l σ).length=σ.length
 |[],_,_=>rfl
 |f::r,i,σ=>by
  simp only [qcH]
  rw [qb6 S r]
  split
  ·rw [qS]
  ·rfl
theorem qpC {σ τ:St} {u:U} {s:Nat} (hl:σ.length=τ.length) (h:qA σ s=qA τ s):qA (qX σ u) s=qA (qX τ u) s:=by
 by_cases hs:s=u.s
 ·subst hs
  by_cases hlt:u.s<σ.length
  ·rw [qT σ u hlt,qT τ u (by omega),h]
  ·have e1:qX σ u=σ:=by simp only [qX]; exact List.set_eq_of_length_le (by omega)
   have e2:qX τ u=τ:=by simp only [qX]; exact List.set_eq_of_length_le (by omega)
   rw [e1,e2,h]
 ·rw [qz _ _ hs,qz _ _ hs,h]
theorem qhv:(us:List U)→ {σ τ:St} → {s:Nat} →σ.length=τ.length→qA σ s=qA τ s→qA (qv σ us) s=qA (qv τ us) s
 |[],_,_,_,_,h=>h
 |u::us,σ,τ,s,hl,h=>qhv us (σ:=qX σ u) (τ:=qX τ u) (by rw [qao,qao,hl]) (qpC hl h)
theorem qg8:(us:List U)→ {σ:St} → {s:Nat} →s∉us.map (·.s)→qA (qv σ us) s=qA σ s
 |[],_,_,_=>rfl
 |u::us,σ,s,h=>by
  simp only [List.map_cons,List.mem_cons,not_or] at h
  exact (qg8 us (σ:=qX σ u) h.2).trans (qz _ _ h.1)
theorem qdO {S S':Nat→Bool} {s:Nat} :(l:List qe8)→(i:Nat)→ {σ τ:St} →σ.length=τ.length→qA σ s=qA τ s→(∀k f,l[k]? =some f→s∈f.wr→S (i+k)=S' (i+k))→qA (qcH S i l σ) s=qA (qcH S' i l τ) s
 |[],_,_,_,_,h,_=>h
 |f::r,i,σ,τ,hl,h,hS=>by
  simp only [qcH]
  refine qdO r (i+1) ?_ ?_ fun k f' hk hs=>by
   have:=hS (k+1) f' (by simpa using hk) hs
   rwa [show i+(k+1)=i+1+k by omega] at this
  ·split <;> split <;> simp only [qS,hl]
  ·by_cases hs:s∈f.wr
   ·have:=hS 0 f rfl hs
    rw [Nat.add_zero] at this
    rw [←this]
    split
    ·exact qhv _ hl h
    ·exact h
   ·have n1:∀ρ:St,qA (qv ρ f.us) s=qA ρ s:=fun ρ=>qg8 f.us hs
    split <;> split <;> simp only [n1,h]
theorem qoZ {σ τ:St} (hl:σ.length=τ.length) (h:∀s,qA σ s=qA τ s):σ=τ:=by
 apply List.ext_getElem?
 intro s
 by_cases hs:s<σ.length
 ·have:=h s
  simp only [qA,List.getD_eq_getElem?_getD,List.getElem?_eq_getElem hs,List.getElem?_eq_getElem (show s<τ.length by omega),Option.getD_some] at this
  rw [List.getElem?_eq_getElem hs,List.getElem?_eq_getElem (by omega),this]
 ·rw [List.getElem?_eq_none (by omega),List.getElem?_eq_none (by omega)]
theorem qjG:(l:List qe8)→(i:Nat)→(σ:St)→qcH (fun _=>false) i l σ=σ
 |[],_,_=>rfl
 |f::r,i,σ=>by simp only [qcH,Bool.false_eq_true,if_false]; exact qjG r (i+1) σ
theorem qdk:(l:List qe8)→(i m:Nat)→(σ:St)→qcH (fun k=>decide (k<i+m)) i l σ=qeX (l.take m) σ
 |[],i,m,σ=>by simp [qcH,qeX]
 |f::r,i,0,σ=>by
  have:qcH (fun k=>decide (k<i+0)) i (f::r) σ=qcH (fun _=>false) i (f::r) σ:=by
   apply qoZ
   ·rw [qb6,qb6]
   ·intro s
    exact qdO _ _ rfl rfl fun k f _ _=>by simp
  rw [this,qjG]
  rfl
 |f::r,i,m+1,σ=>by
  simp only [qcH]
  rw [if_pos (by simp)]
  have:=qdk r (i+1) m (qv σ f.us)
  rw [show i+1+m=i+(m+1) by omega] at this
  rw [this]
  rfl
theorem Q.run_congr {α:Type} {lk lk':Nat→Ent} :(q:Q α)→(∀s∈q.log lk,lk' s=lk s)→q.run lk'=q.run lk
 | .ret _,_=>rfl
 | .fail,_=>rfl
 | .get s k,h=>by
  have h0:=h s List.mem_cons_self
  simp only [Q.run,h0]
  exact Q.run_congr (k (lk s)) fun s' hs'=>h s' (List.mem_cons_of_mem _ hs')
def qtj (E:Env) (ops:Array Oper) (σ:St) (l:List Oper) (fl:List qe8) (c:List Bool):Prop:=
 fl.length=l.length∧∀k o ft,l[k]? =some o→fl[k]? =some ft→∃g f,qgK ops o=some g∧(qgP E g o).run (qA (qeX (fl.take k) σ))=some f∧ft= { rd:=(qgP E g o).log (qA (qeX (fl.take k) σ)),us:=f.upd } ∧(∀u∈f.upd,u.s<σ.length)∧∀b∈f.chk,b∈c
theorem qlj {E:Env} {wr:List Nat} {ops:Array Oper} :(l:List Oper)→ {σ σ':St} → {c c':List Bool} → {fs fs':List qe8} →qea E wr ops l σ c fs=some (σ',c',fs')→
  ∃fl,fs'=fl.reverse++fs∧qtj E ops σ l fl c'∧σ'=qeX fl σ∧∀b∈c,b∈c'
 |[],σ,σ',c,c',fs,fs',he=>by
  simp only [qea,Option.some.injEq,Prod.mk.injEq] at he
  obtain ⟨rfl,rfl,rfl⟩:=he
  exact ⟨[],rfl,⟨rfl,fun k o ft h=>by simp at h⟩,rfl,fun b h=>h⟩
 |o::r,σ,σ',c,c',fs,fs',he=>by
  simp only [qea] at he
  split at he
  ·cases he
  rename_i g hg
  split at he
  ·cases he
  rename_i f hf
  split at he
  case isFalse=>cases he
  rename_i hu
  obtain ⟨fl,h1,⟨h2,h3⟩,h4,h5⟩:=qlj r he
  refine ⟨{ rd:=(qgP E g o).log (qA σ),us:=f.upd } ::fl,by rw [h1]; simp,⟨by simp [h2],fun k o' ft hk hft=> ?_⟩,by rw [h4]; rfl,fun b hb=>h5 b (List.mem_append_left _ hb)⟩
  cases k with
  |zero=>
   simp at hk hft
   subst hk; subst hft
   refine ⟨g,f,hg,hf,rfl,fun u hm=> ?_,fun b hb=>h5 b (List.mem_append_right _ hb)⟩
   have:=List.all_eq_true.1 hu u hm
   simp at this
   exact this.2
  |succ k=>
   obtain ⟨g',f',k1,k2,k3,k4,k5⟩:=h3 k o' ft (by simpa using hk) (by simpa using hft)
   exact ⟨g',f',k1,k2,k3,fun u hm=>by have:=k4 u hm; rwa [qS] at this,k5⟩
theorem qlp {ms:List Nat} {j:Nat} :(es:List Nat)→(m:Nat)→(es.foldl (fun m j=>m|||(1 <<< j)|||ms.getD j 0) m).testBit j=true→m.testBit j=true∨j∈es∨∃k∈es,(ms.getD k 0).testBit j=true
 |[],m,h=> .inl h
 |e::es,m,h=>by
  rcases qlp es _ h with h|h|⟨k,hk,h⟩
  ·simp only [Nat.testBit_or,Bool.or_eq_true] at h
   rcases h with (h|h)|h
   ·exact .inl h
   ·refine .inr (.inl ?_)
    rw [Nat.one_shiftLeft,Nat.testBit_two_pow] at h
    have:e=j:=by simpa using h
    rw [this]
    exact List.mem_cons_self
   ·exact .inr (.inr ⟨e,List.mem_cons_self,h⟩)
  ·exact .inr (.inl (List.mem_cons_of_mem _ h))
  ·exact .inr (.inr ⟨k,List.mem_cons_of_mem _ hk,h⟩)
theorem qn1 {m:Nat} {f:qe8} :(l:List qe8)→(j:Nat)→qol m f j l=true→∀k g,l[k]? =some g→m.testBit (j+k)=true∨qfx f g=true
 |[],_,_,k,g,h=>by simp at h
 |x::r,j,hp,k,g,h=>by
  simp only [qol,Bool.and_eq_true,Bool.or_eq_true] at hp
  cases k with
  |zero=>simp at h; subst h; exact hp.1
  |succ k=>
   have:=qn1 r (j+1) hp.2 k g (by simpa using h)
   rwa [show j+1+k=j+(k+1) by omega] at this
theorem qpV:(os:List Oper)→(fs:List qe8)→(ms:List Nat)→(done:List qe8)→ms.length=done.length→qje os fs ms done=true→
  ∃M:List Nat,M.length=os.length∧fs.length=os.length∧∀k o f,os[k]? =some o→fs[k]? =some f→(∀j∈qcy o,j<ms.length+k)∧(ms++M).getD (ms.length+k) 0=qio ((ms++M).take (ms.length+k)) (qcy o)∧
   ∀j g,j<ms.length+k→(done++fs)[j]? =some g→((ms++M).getD (ms.length+k) 0).testBit j=true∨qfx f g=true
 |[],[],_,_,_,_=>⟨[],rfl,rfl,fun k o f h=>by simp at h⟩
 |o::os,f::fs,ms,done,hl,h=>by
  simp only [qje,Bool.and_eq_true] at h
  obtain ⟨h1,h2,h3⟩:=h
  obtain ⟨M,k1,k2,k3⟩:=qpV os fs _ _ (by simp [hl]) h3
  refine ⟨qio ms (qcy o)::M,by simp [k1],by simp [k2],fun k o' f' ho hf=> ?_⟩
  have e1:ms++qio ms (qcy o)::M=(ms++[qio ms (qcy o)])++M:=by simp
  have e2:done++f::fs=(done++[f])++fs:=by simp
  cases k with
  |zero=>
   simp at ho hf
   subst ho; subst hf
   refine ⟨fun j hj=>by have:=List.all_eq_true.1 h1 j hj; simpa using this,?_,fun j g hj hg=> ?_⟩
   ·rw [Nat.add_zero,List.take_left' rfl]
    simp [List.getD]
   ·rw [Nat.add_zero] at hj⊢
    have hg':done[j]? =some g:=by rwa [List.getElem?_append_left (by omega)] at hg
    have:=qn1 done 0 h2 j g hg'
    rw [Nat.zero_add] at this
    have e:(ms++qio ms (qcy o)::M).getD ms.length 0=qio ms (qcy o):=by simp [List.getD]
    rw [e]
    exact this
  |succ k=>
   obtain ⟨q1,q2,q3⟩:=k3 k o' f' (by simpa using ho) (by simpa using hf)
   have e3:(ms++[qio ms (qcy o)]).length+k=ms.length+(k+1):=by simp; omega
   rw [e3] at q1 q2 q3
   rw [e1,e2]
   exact ⟨q1,q2,q3⟩
 |[],_::_,_,_,_,h=>by cases h
 |_::_,[],_,_,_,h=>by cases h
def qmR (ops:Array Oper) (S:Nat→Bool):Prop:=∀i o,ops[i]? =some o→S i=true→∀j∈qcy o,S j=true
theorem qn9 {ops:Array Oper} {fl:List qe8} (h:qje ops.toList fl [] []=true):fl.length=ops.size∧∃M:List Nat,∀k o f,ops[k]? =some o→fl[k]? =some f→(∀j∈qcy o,j<k)∧M.getD k 0=qio (M.take k) (qcy o)∧∀j g,j<k→fl[j]? =some g→(M.getD k 0).testBit j=true∨qfx f g=true:=by
 obtain ⟨M,h1,h2,h3⟩:=qpV ops.toList fl [] [] rfl h
 refine ⟨by simpa using h2,M,fun k o f ho hf=> ?_⟩
 have:=h3 k o f (by simpa using ho) hf
 simpa using this
theorem qjy {ops:Array Oper} {fl:List qe8} {M:List Nat} (hlen:fl.length=ops.size) (hM:∀k o f,ops[k]? =some o→fl[k]? =some f→(∀j∈qcy o,j<k)∧M.getD k 0=qio (M.take k) (qcy o)∧∀j g,j<k→fl[j]? =some g→(M.getD k 0).testBit j=true∨qfx f g=true)
  {S:Nat→Bool} (hS:qmR ops S):∀(n k:Nat) (o:Oper),k<n→ops[k]? =some o→(∀j∈qcy o,S j=true)→∀j,(M.getD k 0).testBit j=true→S j=true
 |0,k,o,h,_,_,_,_=>by omega
 |n+1,k,o,hk,ho,he,j,hj=>by
  have hks:k<ops.size:=(Array.getElem?_eq_some_iff.1 ho).1
  obtain ⟨q1,q2,_⟩:=hM k o _ ho (List.getElem?_eq_getElem (by omega))
  rw [q2] at hj
  rcases qlp _ _ hj with h|h|⟨k',hk',h⟩
  ·simp at h
  ·exact he j h
  ·have hlt:=q1 k' hk'
   have ho':ops[k']? =some ops[k']:=Array.getElem?_eq_getElem (by omega)
   have e:(M.take k).getD k' 0=M.getD k' 0:=by
    simp only [List.getD_eq_getElem?_getD,List.getElem?_take,if_pos hlt]
   rw [e] at h
   exact qjy hlen hM hS n k' _ (by omega) ho' (hS k' _ ho' (he k' hk')) j h
theorem qry {f g:qe8} (h:qfx f g=true) {s:Nat} :(s∈f.wr→s∉g.rd∧s∉g.wr)∧(s∈g.wr→s∉f.rd):=by
 simp only [qfx,Bool.and_eq_true] at h
 have h1:=qfZ h.1
 have h2:=qfZ h.2
 exact ⟨fun hs=>⟨fun hr=>h1 s hs (List.mem_append_left _ hr),fun hw=>h1 s hs (List.mem_append_right _ hw)⟩,fun hs=>h2 s hs⟩
theorem qpZ {ops:Array Oper} {fl:List qe8} (h:qje ops.toList fl [] []=true) {S:Nat→Bool} (hS:qmR ops S) {i:Nat} {o:Oper} {f:qe8} (ho:ops[i]? =some o) (hf:fl[i]? =some f) (hn:S i=false) (he:∀j∈qcy o,S j=true)
  {s:Nat} (hs:s∈f.rd∨s∈f.wr):∀j g,fl[j]? =some g→s∈g.wr→S j=decide (j<i):=by
 obtain ⟨hlen,M,hM⟩:=qn9 h
 intro j g hg hw
 have hjs:j<ops.size:=by
  have:=(List.getElem?_eq_some_iff.1 hg).1
  omega
 have hoj:ops[j]? =some ops[j]:=Array.getElem?_eq_getElem hjs
 rcases Nat.lt_trichotomy j i with hlt|heq|hgt
 ·rw [decide_eq_true hlt]
  cases hSj:S j with
  |true=>rfl
  |false=>
   rcases (hM i o f ho hf).2.2 j g hlt hg with hb|hb
   ·have:=qjy hlen hM hS (i+1) i o (by omega) ho he j hb
    rw [hSj] at this
    cases this
   ·obtain ⟨n1,n2⟩:=qry hb (s:=s)
    rcases hs with hs|hs
    ·exact absurd hs (n2 hw)
    ·exact absurd hw (n1 hs).2
 ·subst heq
  rw [hn]
  simp
 ·rw [decide_eq_false (by omega)]
  cases hSj:S j with
  |false=>rfl
  |true=>
   rcases (hM j _ g hoj hg).2.2 i f hgt hf with hb|hb
   ·have:=qjy hlen hM hS (j+1) j _ (by omega) hoj (hS j _ hoj hSj) i hb
    rw [hn] at this
    cases this
   ·obtain ⟨n1,n2⟩:=qry hb (s:=s)
    rcases hs with hs|hs
    ·exact absurd hs (n1 hw).1
    ·exact absurd hs (n1 hw).2
theorem qnR {ops:Array Oper} {fl:List qe8} {σ:St} (h:qje ops.toList fl [] []=true) {S:Nat→Bool} (hS:qmR ops S) {i:Nat} {o:Oper} {f:qe8} (ho:ops[i]? =some o) (hf:fl[i]? =some f) (hn:S i=false) (he:∀j∈qcy o,S j=true)
  {s:Nat} (hs:s∈f.rd∨s∈f.wr):qA (qcH S 0 fl σ) s=qA (qeX (fl.take i) σ) s:=by
 have hb:=qdk fl 0 i σ
 rw [Nat.zero_add] at hb
 rw [←hb]
 exact qdO fl 0 rfl rfl fun k g hg hw=>by
  rw [Nat.zero_add]
  exact qpZ h hS ho hf hn he hs k g hg hw
theorem qqX {fl:List qe8} {i:Nat} {f:qe8} (hf:fl[i]? =some f) (σ:St):qeX (fl.take (i+1)) σ=qv (qeX (fl.take i) σ) f.us:=by
 rw [List.take_add_one,hf]
 simp [qeX,List.foldl_append]
theorem qrf {ops:Array Oper} {fl:List qe8} {σ:St} (h:qje ops.toList fl [] []=true) {S S':Nat→Bool} (hS:qmR ops S) {i:Nat} {o:Oper} {f:qe8} (ho:ops[i]? =some o) (hf:fl[i]? =some f) (hn:S i=false) (he:∀j∈qcy o,S j=true)
  (hS1:S' i=true) (hS2:∀j,j≠i→S' j=S j):qcH S' 0 fl σ=qv (qcH S 0 fl σ) f.us:=by
 apply qoZ
 ·rw [qS,qb6,qb6]
 ·intro s
  by_cases hs:s∈f.wr
  ·have h1:qA (qcH S' 0 fl σ) s=qA (qeX (fl.take (i+1)) σ) s:=by
    have hb:=qdk fl 0 (i+1) σ
    rw [Nat.zero_add] at hb
    rw [←hb]
    refine qdO fl 0 rfl rfl fun k g hg hw=> ?_
    rw [Nat.zero_add]
    by_cases hk:k=i
    ·subst hk
     rw [hS1]
     simp
    ·rw [hS2 k hk,qpZ h hS ho hf hn he (.inr hs) k g hg hw]
     by_cases hlt:k<i
     ·rw [decide_eq_true hlt,decide_eq_true (by omega)]
     ·rw [decide_eq_false hlt,decide_eq_false (by omega)]
   rw [h1,qqX hf]
   refine (qhv _ ?_ (qnR h hS ho hf hn he (.inr hs))).symm
   rw [qb6]
   have hb:=qdk fl 0 i σ
   rw [←hb,qb6]
  ·rw [qg8 _ hs]
   refine qdO fl 0 rfl rfl fun k g hg hw=> ?_
   rw [Nat.zero_add]
   refine hS2 k fun e=> ?_
   subst e
   rw [hf] at hg
   injection hg with hg
   subst hg
   exact hs hw
theorem qjk {ops:Array Oper} {listed:Array Bool} {i:Nat} (h:i∈Region.ready .any ops listed):i<ops.size∧listed.getD i true=false∧∃o,ops[i]? =some o∧∀j∈qcy o,listed.getD j false=true:=by
 simp only [Region.ready,List.mem_filter,List.mem_range,Bool.and_eq_true,Bool.not_eq_true'] at h
 obtain ⟨h1,h2,h3⟩:=h
 have ho:ops[i]? =some ops[i]:=Array.getElem?_eq_getElem h1
 refine ⟨h1,h2,_,ho,fun j hj=> ?_⟩
 rw [ho] at h3
 simp only [Option.map_some,Option.getD_some] at h3
 rw [←Array.all_toList,List.all_eq_true] at h3
 simp only [qcy,List.mem_map,List.mem_filter] at hj
 obtain ⟨e,⟨he,hb⟩,rfl⟩:=hj
 have:=h3 e he
 rw [hb] at this
 simpa using this
theorem qnA {ops:Array Oper} {listed:Array Bool} {i:Nat} {o:Oper} (ho:ops[i]? =some o) (hl:listed.getD i true=false) (he:∀j∈qcy o,listed.getD j false=true):i∈Region.ready .any ops listed:=by
 simp only [Region.ready,List.mem_filter,List.mem_range,Bool.and_eq_true,Bool.not_eq_true']
 refine ⟨(Array.getElem?_eq_some_iff.1 ho).1,hl,?_⟩
 rw [ho]
 simp only [Option.map_some,Option.getD_some]
 rw [←Array.all_toList,List.all_eq_true]
 intro e hm
 by_cases hb:Region.binds .any e=true
 ·rw [he e.on (List.mem_map.2 ⟨e,List.mem_filter.2 ⟨hm,hb⟩,rfl⟩)]
  simp
 ·simp [hb]
theorem qm4 (S:Nat→Bool):(l l':List qe8)→l.map (·.us)=l'.map (·.us)→∀i σ,qcH S i l σ=qcH S i l' σ
 |[],[],_,_,_=>rfl
 |[],_::_,h,_,_=>by cases h
 |_::_,[],h,_,_=>by cases h
 |f::l,f'::l',h,i,σ=>by
  simp only [List.map_cons,List.cons.injEq] at h
  simp only [qcH,h.1]
  exact qm4 S l l' h.2 _ _
theorem qmp:(l l':List qe8)→l.map (·.us)=l'.map (·.us)→∀σ,qeX l σ=qeX l' σ
 |[],[],_,_=>rfl
 |[],_::_,h,_=>by cases h
 |_::_,[],h,_=>by cases h
 |f::l,f'::l',h,σ=>by
  simp only [List.map_cons,List.cons.injEq] at h
  simp only [qeX,List.foldl_cons,h.1]
  exact qmp l l' h.2 _
theorem qpz (pins:List Nat) (σ:St) (fl:List qe8):(os:List Oper)→(fs:List qe8)→fs.length=os.length→(qkx pins σ fl os fs).map (·.us)=fs.map (·.us)
 |[],[],_=>rfl
 |[],_::_,h=>by cases h
 |_::_,[],h=>by cases h
 |o::os,f::fs,h=>by
  simp only [qkx,List.map_cons,qpz pins σ fl os fs (by simpa using h)]
  congr 1
  split
  ·split <;> rfl
  ·rfl
theorem qpf (pins:List Nat) (σ:St) (fl:List qe8):(os:List Oper)→(fs:List qe8)→fs.length=os.length→∀(i:Nat) (o:Oper) (f f':qe8),os[i]? =some o→fs[i]? =some f→(qkx pins σ fl os fs)[i]? =some f'→f'.rd=f.rd∨∃s,qhC o=some s∧(qrk σ fl s||qo4 pins σ fl s)=true
 |[],_,_,i,o,f,f',h,_,_=>by simp at h
 |_::_,[],h,_,_,_,_,_,_,_=>by cases h
 |o'::os,f0::fs,h,i,o,f,f',h1,h2,h3=>by
  cases i with
  |zero=>
   simp only [qkx,List.getElem?_cons_zero,Option.some.injEq] at h1 h2 h3
   subst h1; subst h2; subst h3
   split
   ·rename_i s hs
    split
    ·rename_i hq
     exact .inr ⟨s,hs,hq⟩
    ·exact .inl rfl
   ·exact .inl rfl
  |succ i=>
   simp only [qkx,List.getElem?_cons_succ] at h1 h2 h3
   exact qpf pins σ fl os fs (by simpa using h) i o f f' h1 h2 h3
theorem qln {s:Nat} :(us:List U)→ {σ:St} →qgC (qA σ s).2=true→us.all (fun u=>u.s != s||(!u.bump&&qgC u.a))=true→(qA (qv σ us) s).1=(qA σ s).1∧qgC (qA (qv σ us) s).2=true
 |[],_,h,_=>⟨rfl,h⟩
 |u::us,σ,h,hu=>by
  simp only [List.all_cons,Bool.and_eq_true] at hu
  have key:(qA (qX σ u) s).1=(qA σ s).1∧qgC (qA (qX σ u) s).2=true:=by
   by_cases hs:s=u.s
   ·by_cases hlt:u.s<σ.length
    ·have h1:=hu.1
     simp only [hs,bne_self_eq_false,Bool.false_or,Bool.and_eq_true,Bool.not_eq_true'] at h1
     rw [hs,qT σ u hlt,h1.1]
     exact ⟨rfl,h1.2⟩
    ·have e1:qX σ u=σ:=by simp only [qX]; exact List.set_eq_of_length_le (by omega)
     rw [e1]
     exact ⟨rfl,h⟩
   ·rw [qz _ _ hs]
    exact ⟨rfl,h⟩
  obtain ⟨k1,k2⟩:=qln us (σ:=qX σ u) key.2 hu.2
  exact ⟨k1.trans key.1,k2⟩
theorem qha {S:Nat→Bool} {s:Nat} :(l:List qe8)→(i:Nat)→ {σ:St} →qgC (qA σ s).2=true→l.all (fun f=>f.us.all (fun u=>u.s != s||(!u.bump&&qgC u.a)))=true→(qA (qcH S i l σ) s).1=(qA σ s).1∧qgC (qA (qcH S i l σ) s).2=true
 |[],_,_,h,_=>⟨rfl,h⟩
 |f::l,i,σ,h,hl=>by
  simp only [List.all_cons,Bool.and_eq_true] at hl
  simp only [qcH]
  split
  ·obtain ⟨k1,k2⟩:=qln f.us h hl.1
   obtain ⟨k3,k4⟩:=qha l (i+1) k2 hl.2
   exact ⟨k3.trans k1,k4⟩
  ·exact qha l (i+1) h hl.2
theorem qs2 {E:Env} {o:Oper} {s:Nat} (ho:qhC o=some s) {lk lk':Nat→Ent} (h1:qgC (lk s).2=true) (h2:qgC (lk' s).2=true) (h3:(lk' s).1=(lk s).1):(qgP E none o).run lk'=(qgP E none o).run lk:=by
 unfold qhC at ho
 split at ho
 case h_2=>cases ho
 rename_i s' hg hop
 injection ho with ho
 subst ho
 cases ha:lk s' with
 |mk v a=>
  cases ha':lk' s' with
  |mk v' a'=>
   rw [ha] at h1 h3
   rw [ha'] at h2 h3
   simp only at h1 h2 h3
   subst h3
   cases a <;> simp only [qgC,Bool.false_eq_true] at h1
   cases a' <;> simp only [qgC,Bool.false_eq_true] at h2
   simp only [qgP,qeI,hop,opd,Q.bind,Q.run,ha,ha',qce,qsq,Bool.false_eq_true,if_false,okE]
   unfold qnd
   split
   ·rfl
   ·have e:∀d,((qcl o (.ref s' v')).any (qn6 d))=false:=fun d=>by unfold qcl; split <;> simp [qn6]
    simp only [e,Bool.false_eq_true,if_false,Q.run]
theorem qmS {s:Nat} :(us:List U)→ {σ:St} →qhI (qA σ s).2=true→us.all (fun u=>u.s != s||qhI u.a)=true→qhI (qA (qv σ us) s).2=true
 |[],_,h,_=>h
 |u::us,σ,h,hu=>by
  simp only [List.all_cons,Bool.and_eq_true] at hu
  refine qmS us (σ:=qX σ u) ?_ hu.2
  by_cases hs:s=u.s
  ·by_cases hlt:u.s<σ.length
   ·have h1:=hu.1
    simp only [hs,bne_self_eq_false,Bool.false_or] at h1
    rw [hs,qT σ u hlt]
    exact h1
   ·have e1:qX σ u=σ:=by simp only [qX]; exact List.set_eq_of_length_le (by omega)
    rw [e1]
    exact h
  ·rw [qz _ _ hs]
   exact h
theorem qiS {S:Nat→Bool} {s:Nat} :(l:List qe8)→(i:Nat)→ {σ:St} →qhI (qA σ s).2=true→l.all (fun f=>f.us.all (fun u=>u.s != s||qhI u.a))=true→qhI (qA (qcH S i l σ) s).2=true
 |[],_,_,h,_=>h
 |f::l,i,σ,h,hl=>by
  simp only [List.all_cons,Bool.and_eq_true] at hl
  simp only [qcH]
  split
  ·exact qiS l (i+1) (qmS f.us h hl.1) hl.2
  ·exact qiS l (i+1) h hl.2
theorem qvx {E:Env} {o:Oper} {s:Nat} (ho:qhC o=some s) (hp:E.pins.contains s=true) {lk lk':Nat→Ent} (h1:qhI (lk s).2=true) (h2:qhI (lk' s).2=true):(qgP E none o).run lk'=(qgP E none o).run lk:=by
 unfold qhC at ho
 split at ho
 case h_2=>cases ho
 rename_i s' hg hop
 injection ho with ho
 subst ho
 cases ha:lk s' with
 |mk v a=>
  cases ha':lk' s' with
  |mk v' a'=>
   rw [ha] at h1
   rw [ha'] at h2
   simp only at h1 h2
   cases a <;> simp only [qhI,Bool.false_eq_true] at h1
   cases a' <;> simp only [qhI,Bool.false_eq_true] at h2
   simp only [qgP,qeI,hop,opd,Q.bind,Q.run,ha,ha',qce,qsq,hp,if_true,okE]
   unfold qnd
   split
   ·rfl
   ·have e:∀d,((qcl o (.pip s' 0)).any (qn6 d))=false:=fun d=>by unfold qcl; split <;> simp [qn6]
    simp only [e,Bool.false_eq_true,if_false,Q.run]
theorem qtF {ops:Array Oper} {o:Oper} {s:Nat} {g:Option (Nat×Bool)} (ho:qhC o=some s) (hg:qgK ops o=some g):g=none:=by
 unfold qhC at ho
 split at ho
 case h_2=>cases ho
 rename_i s' hgd hop
 unfold qgK at hg
 rw [hgd] at hg
 injection hg with hg
 exact hg.symm
theorem qas.drew {C:Ctx} {σ:St} {tm:Array Value} {w:World} {own:Nat→List Nat} (h:qas C σ tm w own):qas C σ tm w.drew own:=
 ⟨h.size,h.kept.drew,h.mine,h.nodup,h.apart,h.outside,fun s hs=>qaO.keep (X:= { P:=C.P,ver:=fun s=>(qA σ s).1,tm:=fun s=>tm.getD s undef,w,F:=C.free w own,own,pn:=C.pn }) (X':= { P:=C.P,ver:=fun s=>(qA σ s).1,tm:=fun s=>tm.getD s undef,w:=w.drew,F:=C.free w.drew own,own,pn:=C.pn }) ⟨rfl,rfl⟩ (fun b hb hlt=>⟨hb,hlt,rfl⟩) (fun _ _ _=>rfl) (fun m hm hv=>⟨hv,rfl,fun b hb hp=>⟨hb,rfl⟩⟩) (h.rep s hs),h.wf⟩
end Go.Vi
namespace Go.Vi
open Go.RowKit
section
variable {C:Ctx} {E:Env} {σ τ:St} {tm:Array Value} {a:Act} {w w':World} {own:Nat→List Nat} {o:Oper} {p:qh5} [Tabbed E C]
theorem qlY: {c:List Bool} →qxe c=true→qdR c
 |[],_=>fun b hb=>by cases hb
 |[x],h=>fun b hb=>by simp at hb; rw [hb]; exact h
 |x::y::r,h=>fun b hb=>by
  simp only [qxe,Bool.and_eq_true] at h
  rcases List.mem_cons.1 hb with rfl|hb
  ·exact h.1
  ·exact qlY h.2 b hb
theorem qfv {wr:List Nat} :(us:List U)→ {σ:St} →(∀u∈us,u.s∈wr)→Fr wr σ (qv σ us)
 |[],σ,_=>⟨rfl,fun _ _=>rfl⟩
 |u::us,σ,h=>by
  obtain ⟨h1,h2⟩:=qfv us (σ:=qX σ u) (fun v hv=>h v (List.mem_cons_of_mem _ hv))
  refine ⟨by rw [show qv σ (u::us)=qv (qX σ u) us from rfl,h1,qao],fun s hs=> ?_⟩
  show qA (qv (qX σ u) us) s=_
  rw [h2 s hs]
  exact qz σ u fun e=>hs (e ▸ h u List.mem_cons_self)
theorem Fr.trans {wr:List Nat} {a b c:St} (h:Fr wr a b) (k:Fr wr b c):Fr wr a c:=⟨k.1.trans h.1,fun s hs=>(k.2 s hs).trans (h.2 s hs)⟩
theorem Fr.refl (wr:List Nat) (a:St):Fr wr a a:=⟨rfl,fun _ _=>rfl⟩
theorem Fr.mono {wr wr':List Nat} {a b:St} (h:Fr wr a b) (hs:∀s∈wr,s∈wr'):Fr wr' a b:=⟨h.1,fun s hn=>h.2 s fun hm=>hn (hs s hm)⟩
def qwi (σ σ':St):Prop:=∀s,(qA σ s).1≤(qA σ' s).1
theorem qrb (σ:St) (u:U):qwi σ (qX σ u):=fun s=>by
 by_cases h:s=u.s
 ·subst h
  by_cases hl:u.s<σ.length
  ·rw [qT σ u hl]
   simp only
   split
   ·exact Nat.le_succ _
   ·exact Nat.le_refl _
  ·have:qX σ u=σ:=by simp only [qX]; exact List.set_eq_of_length_le (by omega)
   rw [this]
   exact Nat.le_refl _
 ·rw [qz _ _ h]; exact Nat.le_refl _
theorem qwi.trans {a b c:St} (h:qwi a b) (k:qwi b c):qwi a c:=fun s=>Nat.le_trans (h s) (k s)
theorem qlo:(us:List U)→(σ:St)→qwi σ (qv σ us)
 |[],_=>fun _=>Nat.le_refl _
 |u::us,σ=>(qrb σ u).trans (qlo us (qX σ u))
theorem qkP {wr:List Nat} {ops:Array Oper} :(l:List Oper)→ {σ σ':St} → {c c':List Bool} → {fs fs':List qe8} →qea E wr ops l σ c fs=some (σ',c',fs')→
  Fr wr σ σ'∧qwi σ σ'∧(∀b∈c,b∈c')∧(∀f∈fs,f∈fs')∧Fr (fs'.flatMap (·.wr)) σ σ'
 |[],σ,σ',c,c',fs,fs',he=>by
  simp only [qea,Option.some.injEq,Prod.mk.injEq] at he
  obtain ⟨rfl,rfl,rfl⟩:=he
  exact ⟨Fr.refl _ _,fun _=>Nat.le_refl _,fun _ h=>h,fun _ h=>h,Fr.refl _ _⟩
 |o::r,σ,σ',c,c',fs,fs',he=>by
  simp only [qea] at he
  split at he
  ·cases he
  rename_i g hg
  split at he
  ·cases he
  rename_i f hf
  split at he
  case isFalse=>cases he
  rename_i hu
  obtain ⟨h1,h2,h3,h4,h5⟩:=qkP r he
  have hu':∀u∈f.upd,u.s∈wr:=fun u hm=>by
   have:=List.all_eq_true.1 hu u hm
   simp at this
   exact this.1
  refine ⟨(qfv f.upd hu').trans h1,(qlo _ _).trans h2,fun b hb=>h3 b (List.mem_append_left _ hb),fun x hx=>h4 x (List.mem_cons_of_mem _ hx),(qfv f.upd fun u hm=> ?_).trans h5⟩
  exact List.mem_flatMap.2 ⟨_,h4 _ List.mem_cons_self,List.mem_map_of_mem hm⟩
def qd0 (pin:List Nat) (a a':Act):Prop:=a'.defers=a.defers∧∀s∈pin,a'.tmps.getD s undef=a.tmps.getD s undef
theorem qd0.refl (pin:List Nat) (a:Act):qd0 pin a a:=⟨rfl,fun _ _=>rfl⟩
theorem qd0.trans {pin:List Nat} {a b c:Act} (h:qd0 pin b c) (k:qd0 pin a b):qd0 pin a c:=⟨h.1.trans k.1,fun s hs=>(h.2 s hs).trans (k.2 s hs)⟩
theorem qd0.pinC {pin:List Nat} {a a':Act} (hF:qpU E C pin) (hpc:quR C a.tmps) (h:qd0 pin a a'):quR C a'.tmps:=fun k b hb=>(h.2 k (hF.sub k b hb)).trans (hpc k b hb)
theorem qnM (hE:qcc E C.P) {pin wr:List Nat} (hF:qpU E C pin) {ops:Array Oper} {Q:Exit→Act→World→Prop} :(l:List Oper)→qnU pin l=true→ {σ σ':St} → {a:Act} → {w:World} → {own:Nat→List Nat} → {c c':List Bool} → {fs fs':List qe8} →
  qea E wr ops l σ c fs=some (σ',c',fs')→qdR c'→quR C a.tmps→qas C σ a.tmps w own→(∀a' w' own',qd0 pin a a'→qas C σ' a'.tmps w' own'→Q .normal a' w')→wpList C.P ops Q l a w
 |[],_,σ,σ',a,w,own,c,c',fs,fs',he,_,_,h,hQ=>by
  simp only [qea,Option.some.injEq,Prod.mk.injEq] at he
  obtain ⟨rfl,_,_⟩:=he
  exact hQ a w own (qd0.refl _ _) h
 |o::r,hp,σ,σ',a,w,own,c,c',fs,fs',he,hc,hpc,h,hQ=>by
  simp only [qnU,List.all_cons,Bool.and_eq_true] at hp
  simp only [qea] at he
  split at he
  ·cases he
  rename_i g hg
  split at he
  ·cases he
  rename_i f hf
  split at he
  case isFalse=>cases he
  rename_i hu
  have hu':∀u∈f.upd,u.s<σ.length:=fun u hm=>by
   have:=List.all_eq_true.1 hu u hm
   simp at this
   exact this.2
  obtain ⟨_,_,h3,_,_⟩:=qkP r he
  have hcf:qdR f.chk:=fun b hb=>hc b (h3 b (List.mem_append_right _ hb))
  have hok:=qpD hE hF hpc h hg hf hu' hcf (wpList C.P ops Q r) Q fun a' w' own' hd hst=>by
   have hk:qd0 pin a a':=⟨hd.1,fun s hs=>hd.2 s fun e=>qfZ hp.1 s (by simp [e]) hs⟩
   exact qnM hE hF r hp.2 he hc (hk.pinC hF hpc) hst fun a2 w2 own2 hd2 hst2=>hQ a2 w2 own2 (hd2.trans hk) hst2
  unfold wpList
  split at hok
  ·rename_i hw
   rw [if_pos hw]
   exact .inl hok
  ·rename_i hw
   rw [if_neg hw]
   exact hok
theorem qsV {listed:Array Bool} (h:listed.toList.countP (fun b=> !b)=0) {i:Nat} (hi:i<listed.size):listed.getD i false=true:=by
 have:=List.countP_eq_zero.1 h listed[i] (by simp)
 rw [Array.getD_eq_getD_getElem?,Array.getElem?_eq_getElem hi]
 simpa using this
theorem qu3 (hE:qcc E C.P) {pin:List Nat} (hF:qpU E C pin) {ops:Array Oper} {Q:Exit→Act→World→Prop} {fl0 fl:List qe8} {c:List Bool} {a0:Act} (hp:qnU pin ops.toList=true) (hd:qtj E ops σ ops.toList fl0 c) (hus:fl.map (·.us)=fl0.map (·.us)) (hsoft:∀(i:Nat) (o:Oper) (f f':qe8),ops.toList[i]? =some o→fl0[i]? =some f→fl[i]? =some f'→f'.rd=f.rd∨∃s,qhC o=some s∧(qrk σ fl0 s||qo4 E.pins σ fl0 s)=true) (hg:qje ops.toList fl [] []=true) (hc:qdR c) (hpc:quR C a0.tmps)
  (hQ:∀a' w' own',qd0 pin a0 a'→qas C (qeX fl σ) a'.tmps w' own'→Q .normal a' w'):∀(fuel:Nat) (listed:Array Bool) (a:Act) (w:World) (own:Nat→List Nat),listed.size=ops.size→listed.toList.countP (fun b=> !b)=fuel→qmR ops (fun i=>listed.getD i false)→qd0 pin a0 a→
   qas C (qcH (fun i=>listed.getD i false) 0 fl σ) a.tmps w own→wpAny C.P .any ops Q fuel listed a w:=by
 have hlen0:fl0.length=ops.size:=by have:=hd.1; simpa using this
 have hlen:fl.length=ops.size:=by have:=congrArg List.length hus; simp only [List.length_map] at this; omega
 have full:∀ {listed:Array Bool},(∀i,i<ops.size→listed.getD i false=true)→qcH (fun i=>listed.getD i false) 0 fl σ=qeX fl σ:=by
  intro listed hall
  have hb:=qdk fl 0 fl.length σ
  rw [List.take_length] at hb
  rw [←hb]
  apply qoZ
  ·rw [qb6,qb6]
  ·intro s
   refine qdO fl 0 rfl rfl fun k g hg _=> ?_
   have:=(List.getElem?_eq_some_iff.1 hg).1
   rw [hall (0+k) (by omega),decide_eq_true (by omega)]
 intro fuel
 induction fuel with
 |zero=>
  intro listed a w own hs hcnt hcl hk hst
  have hall:∀i,i<ops.size→listed.getD i false=true:=fun i hi=>qsV hcnt (by omega)
  refine ⟨?_,hQ a w own hk (by rw [full hall] at hst; exact hst)⟩
  cases hr:Region.ready .any ops listed with
  |nil=>rfl
  |cons i r=>
   obtain ⟨h1,h2,_⟩:=qjk (ops:=ops) (listed:=listed) (i:=i) (by rw [hr]; exact List.mem_cons_self)
   have h3:=hall i h1
   rw [Array.getD_eq_getD_getElem?,Array.getElem?_eq_getElem (by omega)] at h2 h3
   simp only [Option.getD_some] at h2 h3
   rw [h2] at h3
   cases h3
 |succ fuel ih=>
  intro listed a w own hs hcnt hcl hk hst
  refine ⟨fun hr=> ?_,fun i hi=> ?_⟩
  ·have hall:∀i,i<ops.size→listed.getD i false=true:=by
    intro i
    induction i using Nat.strongRecOn with
    |ind i ihi=>
     intro hi
     cases hb:listed.getD i false with
     |true=>rfl
     |false=>
      have ho:ops[i]? =some ops[i]:=Array.getElem?_eq_getElem hi
      obtain ⟨_,M,hM⟩:=qn9 hg
      obtain ⟨q1,_,_⟩:=hM i _ _ ho (List.getElem?_eq_getElem (by omega))
      have hb':listed.getD i true=false:=by
       rw [Array.getD_eq_getD_getElem?,Array.getElem?_eq_getElem (by omega)] at hb⊢
       exact hb
      have:=qnA ho hb' fun j hj=>ihi j (q1 j hj) (by have:=q1 j hj; omega)
      rw [hr] at this
      cases this
   exact hQ a w own hk (by rw [full hall] at hst; exact hst)
  ·obtain ⟨h1,h2,o,ho,he⟩:=qjk hi
   have hf:fl[i]? =some fl[i]:=List.getElem?_eq_getElem (by omega)
   have hn:listed.getD i false=false:=by
    rw [Array.getD_eq_getD_getElem?,Array.getElem?_eq_getElem (by omega)] at h2⊢
    exact h2
   have hf0:fl0[i]? =some fl0[i]:=List.getElem?_eq_getElem (by omega)
   obtain ⟨g,f,k1,k2,k3,k4,k5⟩:=hd.2 i o _ (by simpa using ho) hf0
   have hui:(fl[i]).us=f.upd:=by
    have h1:(fl.map (·.us))[i]? =(fl0.map (·.us))[i]? :=by rw [hus]
    simp only [List.getElem?_map,hf,hf0,Option.map_some,Option.some.injEq] at h1
    rw [h1,k3]
   have hta:qeX (fl0.take i) σ=qeX (fl.take i) σ:=qmp _ _ (by rw [List.map_take,List.map_take,hus]) σ
   have hrun:(qgP E g o).run (qA (qcH (fun i=>listed.getD i false) 0 fl σ))=some f:=by
    rw [←k2]
    rcases hsoft i o _ _ (by simpa using ho) hf0 hf with hrd|⟨s,hs1,hs2⟩
    ·rw [hta]
     rw [hta] at k3
     refine Go.Vi.Q.run_congr _ fun s hs=>qnR hg hcl ho hf hn he (.inl ?_)
     rw [hrd,k3]
     exact hs
    ·have hgn:=qtF hs1 k1
     subst hgn
     rcases Bool.or_eq_true_iff.1 hs2 with hs2|hs2
     ·simp only [qrk,Bool.and_eq_true] at hs2
      obtain ⟨a1,a2⟩:=qha (S:=fun i=>listed.getD i false) fl0 0 hs2.1 hs2.2
      obtain ⟨b1,b2⟩:=qha (S:=fun k=>decide (k<0+i)) fl0 0 hs2.1 hs2.2
      rw [qm4 _ fl0 fl hus.symm] at a1 a2
      rw [qdk fl0 0 i σ] at b1 b2
      exact qs2 hs1 b2 a2 (a1.trans b1.symm)
     ·simp only [qo4,Bool.and_eq_true] at hs2
      have a2:=qiS (S:=fun i=>listed.getD i false) fl0 0 hs2.2.1 hs2.2.2
      have b2:=qiS (S:=fun k=>decide (k<0+i)) fl0 0 hs2.2.1 hs2.2.2
      rw [qm4 _ fl0 fl hus.symm] at a2
      rw [qdk fl0 0 i σ] at b2
      exact qvx hs1 hs2.1 b2 a2
   have hok:=qpD hE hF (hk.pinC hF hpc) hst k1 hrun (fun u hu=>by rw [qb6]; exact k4 u hu) (fun b hb=>hc b (k5 b hb)) (wpAny C.P .any ops Q fuel (listed.setIfInBounds i true)) Q fun a' w' own' hkd hst'=> ?_
   ·unfold wpOp
    rw [ho]
    simp only
    split at hok
    ·rename_i hw
     rw [if_pos hw]
     exact .inl hok
    ·rename_i hw
     rw [if_neg hw]
     exact hok
   ·have hset:∀j,(listed.setIfInBounds i true).getD j false=if j=i then true else listed.getD j false:=by
     intro j
     simp only [Array.getD_eq_getD_getElem?,Array.getElem?_setIfInBounds]
     by_cases hj:j=i
     ·subst hj
      simp [hs,h1]
     ·rw [if_neg (fun e=>hj e.symm),if_neg hj]
    refine ih _ a' w' own' (by simpa using hs) ?_ ?_ ?_ ?_
    ·rw [Array.toList_setIfInBounds,List.countP_set (by simp; omega),hcnt]
     have hb:listed.toList[i]'(by simp; omega)=false:=by
      rw [Array.getD_eq_getD_getElem?,Array.getElem?_eq_getElem (by omega)] at hn
      simpa using hn
     rw [hb]
     simp
    ·intro j oj hoj hSj k hkk
     simp only [hset] at hSj⊢
     split
     ·rfl
     ·by_cases hji:j=i
      ·subst hji
       rw [ho] at hoj
       injection hoj with hoj
       subst hoj
       exact he k hkk
      ·rw [if_neg hji] at hSj
       exact hcl j oj hoj hSj k hkk
    ·refine qd0.trans ⟨hkd.1,fun s hs=>hkd.2 s fun e=> ?_⟩ hk
     have:=List.all_eq_true.1 hp o (by have:=Array.mem_of_getElem? ho; simpa using this)
     exact qfZ this s (by simp [e]) hs
    ·have e:=qrf (σ:=σ) hg (S':=fun j=>(listed.setIfInBounds i true).getD j false) hcl ho hf hn he (by simp [hset]) (fun j hj=>by simp [hset,hj])
     rw [e]
     rw [hui]
     exact hst'
theorem qj4 (hE:qcc E C.P) {pin wr:List Nat} (hF:qpU E C pin) {id:Nat} {ops:Array Oper} {d:Bool} {Q:Exit→Act→World→Prop} {σ':St} {c:List Bool} {ds:List Nat} (hp:qnU pin ops.toList=true) (he:qdP E wr ops d σ=some (σ',c,ds)) (hc:qdR c) (hpc:quR C a.tmps) (h:qas C σ a.tmps w own)
  (hQ:∀a' w' own',qd0 pin a a'→qas C σ' a'.tmps w' own'→Q .normal a' w'):(Code.region id ops d).wp C.P Q a w:=by
 unfold qdP at he
 split at he
 case h_2=>cases he
 rename_i σ1 c1 fs h1
 split at he
 case isFalse=>cases he
 rename_i hd
 injection he with he
 simp only [Prod.mk.injEq] at he
 obtain ⟨rfl,rfl,rfl⟩:=he
 cases d with
 |false=>exact wp_region_list (qnM hE hF ops.toList hp h1 hc hpc h hQ)
 |true=>
  obtain ⟨fl,g1,g2,g3,_⟩:=qlj ops.toList h1
  have hfs:fs.reverse=fl:=by rw [g1]; simp
  rw [hfs] at hd
  have hd:qje ops.toList (qkx E.pins σ fl ops.toList fl) [] []=true:=by simpa using hd
  have hsu:=qpz E.pins σ fl ops.toList fl g2.1
  refine wp_region_any hE.mixed (qu3 hE hF (a0:=a) hp g2 hsu (qpf E.pins σ fl ops.toList fl g2.1) hd hc hpc (by rw [qmp _ _ hsu,←g3]; exact hQ) _ _ _ _ own (by simp) (by simp [List.countP_replicate]) (fun i o ho hS=> ?_) (qd0.refl _ _) ?_)
  ·simp [Array.getD_eq_getD_getElem?,Array.getElem?_replicate] at hS
   split at hS <;> simp at hS
  ·have e:qcH (fun i=>(Array.replicate ops.size false).getD i false) 0 (qkx E.pins σ fl ops.toList fl) σ=σ:=by
    have:(fun i=>(Array.replicate ops.size false).getD i false)=fun _=>false:=by
     funext i
     simp only [Array.getD_eq_getD_getElem?,Array.getElem?_replicate]
     split <;> rfl
    rw [this,qjG]
   rw [e]
   exact h.drew
theorem qj6 {wr:List Nat} {ops:Array Oper} {d:Bool} {σ':St} {c:List Bool} {ds:List Nat} (he:qdP E wr ops d σ=some (σ',c,ds)):Fr wr σ σ'∧qwi σ σ'∧Fr ds σ σ':=by
 unfold qdP at he
 split at he
 case h_2=>cases he
 rename_i σ1 c1 fs h1
 split at he
 case isFalse=>cases he
 injection he with he
 simp only [Prod.mk.injEq] at he
 obtain ⟨rfl,rfl,rfl⟩:=he
 obtain ⟨k1,k2,_,_,k5⟩:=qkP ops.toList h1
 exact ⟨k1,k2,k5⟩
theorem qmm (b:Bool) (σ1 σ2:St):(ds:List Nat)→(σ:St)→(qll b ds σ σ1 σ2).length=σ.length∧∀s,(s∈ds∧s<σ.length→qA (qll b ds σ σ1 σ2) s=(max (qA σ1 s).1 (qA σ2 s).1+1,qgX b (qA σ1 s).2 (qA σ2 s).2))∧(¬(s∈ds∧s<σ.length)→qA (qll b ds σ σ1 σ2) s=qA σ s)
 |[],σ=>⟨rfl,fun s=>⟨fun h=>(by cases h.1),fun _=>rfl⟩⟩
 |d::ds,σ=>by
  obtain ⟨h1,h2⟩:=qmm b σ1 σ2 ds (σ.set d (max (qA σ1 d).1 (qA σ2 d).1+1,qgX b (qA σ1 d).2 (qA σ2 d).2))
  have e:qll b (d::ds) σ σ1 σ2=qll b ds (σ.set d (max (qA σ1 d).1 (qA σ2 d).1+1,qgX b (qA σ1 d).2 (qA σ2 d).2)) σ1 σ2:=rfl
  rw [e]
  refine ⟨by rw [h1]; simp,fun s=> ?_⟩
  obtain ⟨k1,k2⟩:=h2 s
  rw [List.length_set] at k1 k2
  by_cases hs:s∈ds∧s<σ.length
  ·exact ⟨fun _=>k1 hs,fun hn=>absurd ⟨List.mem_cons_of_mem _ hs.1,hs.2⟩ hn⟩
  ·rw [k2 hs,qiV]
   by_cases hd:s=d∧d<σ.length
   ·rw [if_pos hd]
    obtain ⟨rfl,hd⟩:=hd
    exact ⟨fun _=>rfl,fun hn=>absurd ⟨List.mem_cons_self,hd⟩ hn⟩
   ·rw [if_neg hd]
    refine ⟨fun hn=> ?_,fun _=>rfl⟩
    rcases List.mem_cons.1 hn.1 with rfl|hm
    ·exact absurd ⟨rfl,hn.2⟩ hd
    ·exact absurd ⟨hm,hn.2⟩ hs
theorem qas.join {b:Bool} {ds:List Nat} {σ1 σ2:St} (h:qas C (bif b then σ1 else σ2) tm w own) (h1:Fr ds σ σ1) (h2:Fr ds σ σ2):qas C (qll b ds σ σ1 σ2) tm w own:=by
 obtain ⟨j1,j2⟩:=qmm b σ1 σ2 ds σ
 have hf:Fr ds σ (bif b then σ1 else σ2):=by cases b <;> assumption
 have zero:∀ {ρ:St} {s:Nat},ρ.length=σ.length→¬s<σ.length→qA ρ s=(0,.undef):=fun {ρ s} hl hs=>by simp [qA,List.getD,List.getElem?_eq_none (show ρ.length≤s by omega)]
 refine h.retag (j1.trans hf.1.symm) (fun s=>s∈ds∧s<σ.length) (fun s hs=> ?_) (fun s hs=> ?_) (fun s m _ hm hb=> ?_)
 ·rw [(j2 s).2 hs]
  by_cases hd:s∈ds
  ·have hl:¬s<σ.length:=fun hl=>hs ⟨hd,hl⟩
   rw [zero rfl hl,zero hf.1 hl]
  ·exact (hf.2 s hd).symm
 ·rw [(j2 s).1 hs]
  have e:(qA (bif b then σ1 else σ2) s).2=bif b then (qA σ1 s).2 else (qA σ2 s).2:=by cases b <;> rfl
  refine ⟨?_,fun v hv=> ?_⟩
  ·exact (qnH (X:=sit C (bif b then σ1 else σ2) tm w own) b (by rw [←e]; exact h.at_ s)).2
  ·rw [e] at hv
   exact (qnH b hv).1
 ·rw [(j2 m.1).1 hb]
  have:=h.wf s m hm
  have:m.2≤max (qA σ1 m.1).1 (qA σ2 m.1).1:=by
   cases b
   ·exact Nat.le_trans this (Nat.le_max_right _ _)
   ·exact Nat.le_trans this (Nat.le_max_left _ _)
  show m.2<_+1
  omega
theorem qpX {b:Bool} {ds wr:List Nat} {σ1 σ2:St} (h:∀s∈ds,s∈wr):Fr wr σ (qll b ds σ σ1 σ2):=by
 obtain ⟨j1,j2⟩:=qmm b σ1 σ2 ds σ
 exact ⟨j1,fun s hs=>(j2 s).2 fun hn=>hs (h s hn.1)⟩
end
end Go.Vi
namespace Go.Vi
open Go.RowKit
section
variable {C:Ctx} {E:Env} {σ τ:St} {tm:Array Value} {a:Act} {w w':World} {own:Nat→List Nat} {o:Oper} {p:qh5} [Tabbed E C]
theorem qod {wr:List Nat} {ops:Array Oper} :(l:List Oper)→ {σ σ':St} → {c c':List Bool} → {fs fs':List qe8} →qea E wr ops l σ c fs=some (σ',c',fs')→(∀f∈fs,∀s∈f.wr,s∈wr)→∀f∈fs',∀s∈f.wr,s∈wr
 |[],σ,σ',c,c',fs,fs',he,h=>by
  simp only [qea,Option.some.injEq,Prod.mk.injEq] at he
  obtain ⟨rfl,rfl,rfl⟩:=he
  exact h
 |o::r,σ,σ',c,c',fs,fs',he,h=>by
  simp only [qea] at he
  split at he
  ·cases he
  rename_i g hg
  split at he
  ·cases he
  rename_i f hf
  split at he
  case isFalse=>cases he
  rename_i hu
  refine qod r he fun f' hf' s hs=> ?_
  rcases List.mem_cons.1 hf' with rfl|hf'
  ·obtain ⟨u,hm,rfl⟩:=List.mem_map.1 hs
   have:=List.all_eq_true.1 hu u hm
   simp at this
   exact this.1
  ·exact h f' hf' s hs
theorem qkC {wr:List Nat} {ops:Array Oper} {d:Bool} {σ':St} {c:List Bool} {ds:List Nat} (he:qdP E wr ops d σ=some (σ',c,ds)):∀s∈ds,s∈wr:=by
 unfold qdP at he
 split at he
 case h_2=>cases he
 rename_i σ1 c1 fs h1
 split at he
 case isFalse=>cases he
 injection he with he
 simp only [Prod.mk.injEq] at he
 obtain ⟨rfl,rfl,rfl⟩:=he
 intro s hs
 obtain ⟨f,hf,hs⟩:=List.mem_flatMap.1 hs
 exact qod ops.toList h1 (fun f hf=>by cases hf) f hf s hs
theorem qty (hpc:quR C a.tmps) (h:qas C σ a.tmps w own) {c:Operand} {x:Bool} {ow:List Nat} (he:Q.run (qA σ) ((opd E [] 0 c).bind qnf)=some ⟨.bool,x,ow⟩):a.eval c= .bool x:=by
 obtain ⟨o1,h1,h2⟩:=Q.bind_some he
 exact qaN.bool (qdM h (qaS h ⟨hpc,fun q hq=>by cases hq⟩ h1) h2)
theorem qhj:(l:List Nat)→ {σ:St} → {own:Nat→List Nat} →qas C σ tm w own→∃own',qas C (qks l σ) tm w own'
 |[],_,own,h=>⟨own,h⟩
 |s::l,σ,own,h=>by
  obtain ⟨own1,h1,_⟩:=h.freeze s
  exact qhj l h1
theorem qfH {wr:List Nat} :(l:List Nat)→ {σ:St} →(∀s∈l,s∈wr)→Fr wr σ (qks l σ)
 |[],σ,_=>Fr.refl _ _
 |s::l,σ,h=>by
  have h1:Fr wr σ (qv σ [⟨s,false,(qA σ s).2.freeze⟩]):=qfv _ fun u hu=>by
   rw [List.mem_singleton.1 hu]
   exact h s List.mem_cons_self
  exact h1.trans (qfH l fun s' hs=>h s' (List.mem_cons_of_mem _ hs))
theorem qsh {σ:St} {own:Nat→List Nat} (s:Nat) (h:qas C σ tm w own):∃own',qas C (qmy σ s) tm w own':=by
 unfold qmy
 split
 ·rename_i t x hs
  obtain ⟨own',h1,_⟩:=h.expose (u:=t) (x:=x) (f:=false) hs rfl (by simp [BC.get,Ty.sub_self])
  exact ⟨own',h1⟩
 ·exact ⟨own,h⟩
theorem qmI:(l:List Nat)→ {σ:St} → {own:Nat→List Nat} →qas C σ tm w own→∃own',qas C (qoV l σ) tm w own'
 |[],_,own,h=>⟨own,h⟩
 |s::l,σ,own,h=>by
  obtain ⟨own1,h1⟩:=qsh s h
  exact qmI l h1
theorem qjN {wr:List Nat} :(l:List Nat)→ {σ:St} →(∀s∈l,s∈wr)→Fr wr σ (qoV l σ)
 |[],σ,_=>Fr.refl _ _
 |s::l,σ,h=>by
  have h1:Fr wr σ (qmy σ s):=by
   unfold qmy
   split
   ·rename_i t x _
    exact qfv [⟨s,true,.view t x 0⟩] fun u hu=>by
     rw [List.mem_singleton.1 hu]
     exact h s List.mem_cons_self
   ·exact Fr.refl _ _
  exact h1.trans (qjN l fun s' hs=>h s' (List.mem_cons_of_mem _ hs))
theorem qj0 {σ1 σ2:St} :(l:List Nat)→∀s∈qnx σ1 σ2 l,s∈l
 |[],s,h=>h
 |x::l,s,h=>by
  simp only [qnx] at h
  split at h
  ·rcases List.mem_cons.1 h with rfl|h
   ·exact List.mem_cons_self
   ·exact List.mem_cons_of_mem _ (qj0 l s h)
  ·exact List.mem_cons_of_mem _ (qj0 l s h)
theorem qoB:(l:List (Nat×qfk))→ {σ:St} → {own:Nat→List Nat} →qas C σ tm w own→∃own',qas C (qtN l σ) tm w own'
 |[],_,own,h=>⟨own,h⟩
 |p::l,σ,own,h=>by
  unfold qtN
  split
  ·obtain ⟨own1,h1⟩:=h.refit p.2 p.1
   exact qoB l h1
  ·exact qoB l h
theorem qqO {wr:List Nat} : {l:List (Nat×qfk)} → {σ:St} →(h:∀q∈l,q.1∈wr)→Fr wr σ (qtN l σ)
 |[],σ,_=>Fr.refl _ _
 |p::l,σ,h=>by
  unfold qtN
  have hr:∀σ',Fr wr σ' (qtN l σ'):=fun σ'=>qqO fun q hq=>h q (List.mem_cons_of_mem _ hq)
  split
  ·have h1:Fr wr σ (qv σ [⟨p.1,false,(qA σ p.1).2.refit p.2⟩]):=qfv _ fun u hu=>by
    rw [List.mem_singleton.1 hu]
    exact h p List.mem_cons_self
   exact h1.trans (hr _)
  ·exact hr _
theorem qt4 {frz:List (Nat×List Nat)} {wr:List Nat} {id:Nat} {ops:Array Oper} {d:Bool} {σ':St} {c:List Bool} {ds:List Nat} (he:regE E frz wr id ops d σ=some (σ',c,ds)):Fr wr σ σ'∧Fr ds σ σ'∧∀s∈ds,s∈wr:=by
 unfold regE at he
 split at he
 ·obtain ⟨h1,_,h3⟩:=qj6 he
  exact ⟨h1,h3,qkC he⟩
 ·rename_i fz _
  split at he
  case isFalse=>cases he
  rename_i hall
  split at he
  case h_2=>cases he
  rename_i σ1 c1 d1 h1
  injection he with he
  simp only [Prod.mk.injEq] at he
  obtain ⟨rfl,rfl,rfl⟩:=he
  obtain ⟨g1,_,g3⟩:=qj6 h1
  simp only [Bool.and_eq_true] at hall
  have hsub:∀s∈qf3 frz (some id),s∈wr:=fun s hs=>by
   have:=List.all_eq_true.1 hall.1 s hs
   simpa using this
  have hex:∀s∈qf3 frz (some (id+2000000000)),s∈qf3 frz (some id):=fun s hs=>by
   have:=List.all_eq_true.1 hall.2 s hs
   simpa using this
  refine ⟨((qfH _ hsub).trans (qjN _ fun s hs=>hsub s (hex s hs))).trans g1,((qfH _ fun s hs=>List.mem_append_left _ hs).trans (qjN _ fun s hs=>List.mem_append_left _ (hex s hs))).trans (g3.mono fun s hs=>List.mem_append_right _ hs),fun s hs=> ?_⟩
  rcases List.mem_append.1 hs with hs|hs
  ·exact hsub s hs
  ·exact qkC h1 s hs
theorem qtA (hE:qcc E C.P) {pin:List Nat} (hF:qpU E C pin) {frz:List (Nat×List Nat)} {wr:List Nat} {id:Nat} {ops:Array Oper} {d:Bool} {Q:Exit→Act→World→Prop} {σ':St} {c:List Bool} {ds:List Nat} (hp:qnU pin ops.toList=true) (he:regE E frz wr id ops d σ=some (σ',c,ds)) (hc:qdR c) (hpc:quR C a.tmps) (h:qas C σ a.tmps w own)
  (hQ:∀a' w' own',qd0 pin a a'→qas C σ' a'.tmps w' own'→Q .normal a' w'):(Code.region id ops d).wp C.P Q a w:=by
 unfold regE at he
 split at he
 ·exact qj4 hE hF hp he hc hpc h hQ
 ·split at he
  case isFalse=>cases he
  split at he
  case h_2=>cases he
  rename_i σ1 c1 d1 h1
  injection he with he
  simp only [Prod.mk.injEq] at he
  obtain ⟨rfl,rfl,rfl⟩:=he
  obtain ⟨own1,hst⟩:=qhj (qf3 frz (some id)) h
  obtain ⟨own2,hst2⟩:=qmI (qf3 frz (some (id+2000000000))) hst
  exact qj4 hE hF hp h1 hc hpc hst2 hQ
theorem qjT {frz:List (Nat×List Nat)} {wr:List Nat} :(c:Code)→ {σ σ':St} → {ch:List Bool} → {ds:List Nat} →qst E frz wr c σ=some (σ',ch,ds)→Fr wr σ σ'∧Fr ds σ σ'∧∀s∈ds,s∈wr
 | .skip,σ,σ',ch,ds,he=>by
  simp only [qst,Option.some.injEq,Prod.mk.injEq] at he
  obtain ⟨rfl,rfl,rfl⟩:=he
  exact ⟨Fr.refl _ _,Fr.refl _ _,fun s hs=>by cases hs⟩
 | .region _ ops d,σ,σ',ch,ds,he=>by
  exact qt4 he
 | .seq x y,σ,σ',ch,ds,he=>by
  simp only [qst] at he
  split at he
  case h_2=>cases he
  rename_i σ1 c1 d1 h1
  split at he
  case h_2=>cases he
  rename_i σ2 c2 d2 h2
  injection he with he
  simp only [Prod.mk.injEq] at he
  obtain ⟨rfl,rfl,rfl⟩:=he
  obtain ⟨g1,g2,g3⟩:=qjT x h1
  obtain ⟨k1,k2,k3⟩:=qjT y h2
  refine ⟨g1.trans k1,(g2.mono fun s hs=>List.mem_append_left _ hs).trans (k2.mono fun s hs=>List.mem_append_right _ hs),fun s hs=> ?_⟩
  rcases List.mem_append.1 hs with hs|hs
  ·exact g3 s hs
  ·exact k3 s hs
 | .cond c x y,σ,σ',ch,ds,he=>by
  simp only [qst] at he
  split at he
  case h_2=>cases he
  split at he
  case h_2=>cases he
  rename_i σ1 c1 d1 σ2 c2 d2 h1 h2
  injection he with he
  simp only [Prod.mk.injEq] at he
  obtain ⟨rfl,rfl,rfl⟩:=he
  obtain ⟨g1,g2,g3⟩:=qjT x h1
  obtain ⟨k1,k2,k3⟩:=qjT y h2
  have hsub:∀s∈d1++d2,s∈wr:=fun s hs=>by
   rcases List.mem_append.1 hs with hs|hs
   ·exact g3 s hs
   ·exact k3 s hs
  exact ⟨qpX hsub,qpX fun s hs=>hs,hsub⟩
 | .label _,_,_,_,_,he=>by cases he
 | .block _ _,_,_,_,_,he=>by cases he
 | .loop _,_,_,_,_,he=>by cases he
 | .exit _,_,_,_,_,he=>by cases he
 | .goto _,_,_,_,_,he=>by cases he
 | .ret,_,_,_,_,he=>by cases he
theorem qqL {b:Bool} {c d:List Bool} (h:qdR (qqo b c d)):qdR (bif b then c else d):=by
 unfold qqo at h
 split at h
 ·cases b <;> exact fun x hx=>by cases hx
 ·have:=h _ (List.mem_singleton.2 rfl)
  cases b
  ·exact qlY this
  ·exact qlY this
theorem qmW (hE:qcc E C.P) {frz:List (Nat×List Nat)} {pin wr:List Nat} (hF:qpU E C pin):(c:Code)→qj3 pin c=true→ {σ σ':St} → {ch:List Bool} → {ds:List Nat} → {Q1:Exit→Act→World→Prop} → {a:Act} → {w:World} → {own:Nat→List Nat} →qst E frz wr c σ=some (σ',ch,ds)→qdR ch→quR C a.tmps→qas C σ a.tmps w own→
  (∀a' w' own',qd0 pin a a'→qas C σ' a'.tmps w' own'→Q1 .normal a' w')→c.wp C.P Q1 a w
 | .skip,hp,σ,σ',ch,ds,Q1,a,w,own,he,_,hpc,h,hQ=>by
  simp only [qst,Option.some.injEq,Prod.mk.injEq] at he
  obtain ⟨rfl,rfl,rfl⟩:=he
  exact wp_skip (hQ a w own (qd0.refl _ _) h)
 | .region _ ops d,hp,σ,σ',ch,ds,Q1,a,w,own,he,hc,hpc,h,hQ=>qtA hE hF hp he hc hpc h hQ
 | .seq x y,hp,σ,σ',ch,ds,Q1,a,w,own,he,hc,hpc,h,hQ=>by
  simp only [qst] at he
  split at he
  case h_2=>cases he
  rename_i σ1 c1 d1 h1
  split at he
  case h_2=>cases he
  rename_i σ2 c2 d2 h2
  injection he with he
  simp only [Prod.mk.injEq] at he
  obtain ⟨rfl,rfl,rfl⟩:=he
  simp only [qj3,Bool.and_eq_true] at hp
  refine wp_seq (qmW hE hF x hp.1 h1 (fun b hb=>hc b (List.mem_append_left _ hb)) hpc h fun a1 w1 own1 hd1 hst1=> ?_)
  exact qmW hE hF y hp.2 h2 (fun b hb=>hc b (List.mem_append_right _ hb)) (hd1.pinC hF hpc) hst1 fun a2 w2 own2 hd2 hst2=>hQ a2 w2 own2 (hd2.trans hd1) hst2
 | .cond c x y,hp,σ,σ',ch,ds,Q1,a,w,own,he,hc,hpc,h,hQ=>by
  simp only [qst] at he
  split at he
  case h_2=>cases he
  rename_i b ow hb
  split at he
  case h_2=>cases he
  rename_i σ1 c1 d1 σ2 c2 d2 h1 h2
  injection he with he
  simp only [Prod.mk.injEq] at he
  obtain ⟨rfl,rfl,rfl⟩:=he
  have hch:=qqL hc
  simp only [qj3,Bool.and_eq_true] at hp
  have f1:=(qjT x h1).2.1.mono (wr':=d1++d2) fun s hs=>List.mem_append_left _ hs
  have f2:=(qjT y h2).2.1.mono (wr':=d1++d2) fun s hs=>List.mem_append_right _ hs
  refine wp_cond (qty hpc h hb) ?_
  have z1:=f1.trans (qfH (qnx σ1 σ2 (d1++d2)) (qj0 _))
  have z2:=f2.trans (qfH (qnx σ2 σ1 (d1++d2)) (qj0 _))
  cases b with
  |true=>
   refine qmW hE hF x hp.1 h1 hch hpc h fun a1 w1 own1 hd1 hst1=> ?_
   obtain ⟨own2,hst2⟩:=qhj (qnx σ1 σ2 (d1++d2)) hst1
   exact hQ a1 w1 own2 hd1 (qas.join (b:=true) hst2 z1 z2)
  |false=>
   refine qmW hE hF y hp.2 h2 hch hpc h fun a1 w1 own1 hd1 hst1=> ?_
   obtain ⟨own2,hst2⟩:=qhj (qnx σ2 σ1 (d1++d2)) hst1
   exact hQ a1 w1 own2 hd1 (qas.join (b:=false) hst2 z1 z2)
 | .label _,_,_,_,_,_,_,_,_,_,he,_,_,_,_=>by cases he
 | .block _ _,_,_,_,_,_,_,_,_,_,he,_,_,_,_=>by cases he
 | .loop _,_,_,_,_,_,_,_,_,_,he,_,_,_,_=>by cases he
 | .exit _,_,_,_,_,_,_,_,_,_,he,_,_,_,_=>by cases he
 | .goto _,_,_,_,_,_,_,_,_,_,he,_,_,_,_=>by cases he
 | .ret,_,_,_,_,_,_,_,_,_,he,_,_,_,_=>by cases he
theorem qin {R:Type} {c:List Bool} {r:Option R} {x:R} (h:andThen c r=some x):qdR c∧r=some x:=by
 unfold andThen at h
 split at h
 ·refine ⟨fun b hb=> ?_,h⟩
  cases hb
 ·cases hc:qxe c with
  |true=>rw [hc] at h; exact ⟨qlY hc,h⟩
  |false=>rw [hc] at h; cases h
structure KOk {R:Type} (C:Ctx) (pin:List Nat) (k:K R) (r:R) (wr:List Nat) (σ:St) (ds:Act) (Q1:Exit→Act→World→Prop):Prop where
 n:∀σ' a' w' own',Fr wr σ σ'→qd0 pin ds a'→qas C σ' a'.tmps w' own'→k.n σ'=some r→Q1 .normal a' w'
 e:∀i σ' a' w' own',Fr wr σ σ'→qd0 pin ds a'→qas C σ' a'.tmps w' own'→k.e i σ'=some r→Q1 (.exit i) a' w'
 r:∀σ' a' w' own',Fr wr σ σ'→qd0 pin ds a'→qas C σ' a'.tmps w' own'→k.r σ'=some r→Q1 .ret a' w'
theorem KOk.fr {R:Type} {pin:List Nat} {k:K R} {r:R} {wr wr':List Nat} {ds ds':Act} {Q1:Exit→Act→World→Prop} (h:KOk C pin k r wr σ ds Q1) (hd:qd0 pin ds ds') (hs:∀s∈wr',s∈wr) (hf:Fr wr σ τ):KOk C pin k r wr' τ ds' Q1:=
 ⟨fun σ' a' w' own' f g=>h.n σ' a' w' own' (hf.trans (f.mono hs)) (g.trans hd),fun i σ' a' w' own' f g=>h.e i σ' a' w' own' (hf.trans (f.mono hs)) (g.trans hd),fun σ' a' w' own' f g=>h.r σ' a' w' own' (hf.trans (f.mono hs)) (g.trans hd)⟩
theorem qo0 {σ:St} {s v:Nat} {a:AV} (h:qA σ s=(v,a)) (ha:a≠ .undef):σ.set s (v,a)=σ:=by
 have hl:s<σ.length:=qhd (by rw [h]; exact ha)
 rw [←h]
 simp only [qA,List.getD_eq_getElem?_getD,List.getElem?_eq_getElem hl,Option.getD_some]
 exact List.set_getElem_self hl
theorem qdL {R:Type} :(l:List Nat)→(σ:St)→(k:St→Option R)→qfW l σ k=k σ
 |[],_,_=>rfl
 |s::r,σ,k=>by
  unfold qfW
  split
  ·rename_i v t x h
   rw [qK,qo0 h (fun h=>by cases h)]
   exact qdL r σ k
  ·rename_i v et e xs h
   rw [qK,qo0 h (fun h=>by cases h)]
   exact qdL r σ k
  ·rename_i v t x h
   rw [qK,qo0 h (fun h=>by cases h)]
   exact qdL r σ k
  ·exact qdL r σ k
theorem qwH (hE:qcc E C.P) {N:Nat} {anns:qwX} {R:Type} {pin:List Nat} {r:R} (hF:qpU E C pin) (c:Code):qj3 pin c=true→∀ {wr:List Nat} {σ:St} {k:K R} {Q1:Exit→Act→World→Prop} {a:Act} {w:World} {own:Nat→List Nat},
  qqj E N anns c wr σ k=some r→quR C a.tmps→qas C σ a.tmps w own→KOk C pin k r wr σ a Q1→c.wp C.P Q1 a w:=by
 induction c with
 |skip=>intro hp wr σ k Q1 a w own he hpc h hk; exact wp_skip (hk.n σ a w own (Fr.refl _ _) (qd0.refl _ _) h he)
 |region id ops d=>
  intro hp wr σ k Q1 a w own he hpc h hk
  simp only [qqj,qdL] at he
  split at he
  case h_2=>cases he
  rename_i σ1 c1 d1 h1
  obtain ⟨hc,he⟩:=qin he
  exact qtA hE hF hp h1 hc hpc h fun a1 w1 own1 hd1 hst1=>hk.n _ a1 w1 own1 (qt4 h1).1 hd1 hst1 he
 |seq x y ihx ihy=>
  intro hp wr σ k Q1 a w own he hpc h hk
  simp only [qj3,Bool.and_eq_true] at hp
  refine wp_seq (ihx hp.1 he hpc h ⟨fun σ' a' w' own' f hd hst he'=> ?_,fun i σ' a' w' own' f hd hst he'=>hk.e i σ' a' w' own' f hd hst he',fun σ' a' w' own' f hd hst he'=>hk.r σ' a' w' own' f hd hst he'⟩)
  exact ihy hp.2 he' (hd.pinC hF hpc) hst (hk.fr hd (fun s hs=>hs) f)
 |cond c x y ihx ihy=>
  intro hp wr σ k Q1 a w own he hpc h hk
  simp only [qqj,qdL] at he
  cases hamb:qw1 c σ with
  |some wm=>
   obtain ⟨w0,m⟩:=wm
   simp only [qj3,Bool.and_eq_true] at hp
   obtain ⟨b,hev,hbm⟩:∃b,a.eval c= .bool b∧(b=w0→m=true):=by
    unfold qw1 at hamb
    split at hamb
    case h_2=>cases hamb
    rename_i t
    split at hamb
    case h_2=>cases hamb
    rename_i w1 m1 hat
    injection hamb with hamb
    injection hamb with e1 e2
    subst e1; subst e2
    have:=h.at_ t
    rw [hat] at this
    obtain ⟨_,b,h1,h2⟩:=this
    exact ⟨b,h1,h2⟩
   simp only [hamb] at he
   refine wp_cond hev ?_
   cases m with
   |true=>
    simp only [cond_true,qpY] at he
    split at he
    case isFalse=>cases he
    rename_i hag
    cases b with
    |true=>exact ihx hp.1 he hpc h hk
    |false=>exact ihy hp.2 (hag ▸ he) hpc h hk
   |false=>
    simp only [cond_false] at he
    have hne:b≠w0:=fun e=>by cases hbm e
    cases b <;> cases w0 <;> simp only at he <;> first|exact absurd rfl hne|exact ihx hp.1 he hpc h hk|exact ihy hp.2 he hpc h hk
  |none=>
  simp only [hamb] at he
  split at he
  case h_2=>cases he
  rename_i b ow hb
  split at he
  ·split at he
   case h_2=>cases he
   rename_i σ1 c1 d1 h1
   obtain ⟨hc,he⟩:=qin he
   exact qmW hE hF (.cond c x y) hp h1 hc hpc h fun a1 w1 own1 hd1 hst1=>hk.n _ a1 w1 own1 (qjT _ h1).1 hd1 hst1 he
  ·simp only [qj3,Bool.and_eq_true] at hp
   refine wp_cond (qty hpc h hb) ?_
   cases b with
   |true=>exact ihx hp.1 he hpc h hk
   |false=>exact ihy hp.2 he hpc h hk
 |block id x ih=>
  intro hp wr σ k Q1 a w own he hpc h hk
  refine wp_block (ih hp he hpc h ⟨fun σ' a' w' own' f hd hst he'=>hk.n σ' a' w' own' f hd hst he',fun i σ' a' w' own' f hd hst he'=> ?_,fun σ' a' w' own' f hd hst he'=>hk.r σ' a' w' own' f hd hst he'⟩)
  simp only at he'
  by_cases hi:i=id
  ·rw [if_pos hi] at he'
   subst hi
   simpa [Exit.inBlock] using hk.n σ' a' w' own' f hd hst he'
  ·rw [if_neg hi] at he'
   simpa [Exit.inBlock,hi] using hk.e i σ' a' w' own' f hd hst he'
 |exit id=>intro hp wr σ k Q1 a w own he hpc h hk; exact wp_exit (hk.e id σ a w own (Fr.refl _ _) (qd0.refl _ _) h he)
 |ret=>intro hp wr σ k Q1 a w own he hpc h hk; exact wp_ret (hk.r σ a w own (Fr.refl _ _) (qd0.refl _ _) h he)
 |loop x ih=>
  intro hp wr σ k Q1 a w own he hpc h hk
  simp only [qqj,qdL] at he
  split at he
  case h_2=>cases he
  rename_i A hA
  split at he
  case isFalse=>cases he
  rename_i hcond
  simp only [Bool.and_eq_true] at hcond
  obtain ⟨⟨c1,c2⟩,c3⟩:=hcond
  split at he
  case h_2=>cases he
  rename_i p0 hp0
  have hsub:∀s∈A.wr,s∈wr:=fun s hs=>by
   have:=List.all_eq_true.1 c1 s hs
   simpa using this
  have hlive:∀q∈A.live,q.1∈A.wr:=fun q hq=>by
   have:=List.all_eq_true.1 c2 q hq
   simpa using this
  have hn:=qex c3
  obtain ⟨own0,h0⟩:=qoB A.live h
  refine wp_loop_ghost (fun n a' w'=>∃q own',qas C (qgt A σ q) a'.tmps w' own'∧qd0 pin a a'∧qad n (fun ih p=>qqj E N anns x A.wr (qgt A σ p) { k with n:=fun σ'=>match qqt A.live (qtN A.live σ') with
     |some q=>ih q
     |none=>none }) q=some r) N ⟨p0,own0,qas.head (τ:=qtN A.live σ) h0 hlive hn h.wf (qqO hlive) hp0,qd0.refl _ _,he⟩ ?_
  rintro n a1 w1 ⟨q,own1,hst,hd1,hit⟩
  cases n with
  |zero=>cases hit
  |succ n=>
   have hfr:=qpd (σ:=σ) hlive hn q
   refine ih hp hit (hd1.pinC hF hpc) hst ⟨fun σ' a' w' own' f hd hst' he'=> ?_,fun i σ' a' w' own' f hd hst' he'=> ?_,fun σ' a' w' own' f hd hst' he'=> ?_⟩
   ·simp only at he'
    split at he'
    case h_2=>cases he'
    rename_i q' hq'
    obtain ⟨own2,hst2⟩:=qoB A.live hst'
    exact ⟨n,Nat.lt_succ_self n,q',own2,qas.head (τ:=qtN A.live σ') hst2 hlive hn h.wf ((hfr.trans f).trans (qqO hlive)) hq',hd.trans hd1,he'⟩
   ·exact hk.e i σ' a' w' own' ((hfr.trans f).mono hsub) (hd.trans hd1) hst' he'
   ·exact hk.r σ' a' w' own' ((hfr.trans f).mono hsub) (hd.trans hd1) hst' he'
 |_=>intro hp wr σ k Q1 a w own he hpc h hk; cases he
end
end Go.Vi
namespace Go.Vi
open Go.RowKit
section
variable {C:Ctx} {E:Env} {σ τ:St} {tm:Array Value} {a:Act} {w w':World} {own:Nat→List Nat} {o:Oper} {p:qh5} [Tabbed E C]
theorem qfL: {l:List (List Nat)} →l.flatten.Nodup→(∀i,(l.getD i []).Nodup)∧∀i j b,b∈l.getD i []→b∈l.getD j []→i=j
 |[],_=>⟨fun i=>by simp,fun i j b h=>by simp at h⟩
 |x::l,h=>by
  rw [List.flatten_cons] at h
  obtain ⟨h1,h2,h3⟩:=List.nodup_append.1 h
  obtain ⟨k1,k2⟩:=qfL h2
  have mem:∀i b,b∈l.getD i []→b∈l.flatten:=fun i b hb=>by
   rw [List.getD_eq_getElem?_getD] at hb
   cases hi:l[i]? with
   |none=>rw [hi] at hb; simp at hb
   |some y=>
    rw [hi] at hb
    exact List.mem_flatten.2 ⟨y,List.mem_of_getElem? hi,by simpa using hb⟩
  refine ⟨fun i=> ?_,fun i j b hi hj=> ?_⟩
  ·cases i with
   |zero=>simpa using h1
   |succ i=>simpa using k1 i
  ·cases i with
   |zero=>
    cases j with
    |zero=>rfl
    |succ j=>exact (h3 b (by simpa using hi) b (mem j b (by simpa using hj)) rfl).elim
   |succ i=>
    cases j with
    |zero=>exact (h3 b (by simpa using hj) b (mem i b (by simpa using hi)) rfl).elim
    |succ j=>rw [k2 i j b (by simpa using hi) (by simpa using hj)]
theorem qd6 {X:Sit} {F:Nat→Prop} (hF:∀b,F b→b<X.w.heap.size→X.F b):(ps:List PM)→ {x:PMs.den ps} → {vs:List Value} → {g i:List Nat} →qaA X.P X.w F ps x vs g i→(g++i).Nodup→
  ∃owns:List (List Nat),owns.length=ps.length∧vs.length=ps.length∧(qch ps x).length=ps.length∧owns.flatten.Nodup∧(∀b∈owns.flatten,b∈g++i)∧
   ∀k,k<ps.length→qaO X (qA (qch ps x) k).2 (vs.getD k undef) (owns.getD k [])∧(qA (qch ps x) k).2.mentions=[]
 |[],x,vs,g,i,⟨h1,h2,h3⟩,_=>⟨[],rfl,by rw [h1]; rfl,rfl,by simp,fun b hb=>by simp at hb,fun k hk=>by cases hk⟩
 | .val t::ps,x,vs,g,i,⟨v,r,h1,h2,h3⟩,hn=>by
  obtain ⟨owns,k1,k2,k3,k4,k5,k6⟩:=qd6 hF ps h3 hn
  refine ⟨[]::owns,by simp [k1],by rw [h1]; simp [k2],by simp [qch,k3],by simpa using k4,by simpa using k5,fun k hk=> ?_⟩
  cases k with
  |zero=>exact ⟨⟨rfl,by rw [h1]; exact h2.mono hF⟩,rfl⟩
  |succ k=>rw [h1]; exact k6 k (by simpa using hk)
 | .nil et e::ps,x,vs,g,i,⟨r,h1,h3⟩,hn=>by
  obtain ⟨owns,k1,k2,k3,k4,k5,k6⟩:=qd6 hF ps h3 hn
  refine ⟨[]::owns,by simp [k1],by rw [h1]; simp [k2],by simp [qch,k3],by simpa using k4,by simpa using k5,fun k hk=> ?_⟩
  cases k with
  |zero=>exact ⟨⟨rfl,by rw [h1]; rfl⟩,rfl⟩
  |succ k=>rw [h1]; exact k6 k (by simpa using hk)
 | .rd t::ps,x,vs,g,i,⟨ad,cs,r,h1,h2,h3,h4,h5,h6⟩,hn=>by
  obtain ⟨owns,k1,k2,k3,k4,k5,k6⟩:=qd6 hF ps h6 hn
  refine ⟨[]::owns,by simp [k1],by rw [h1]; simp [k2],by simp [qch,k3],by simpa using k4,by simpa using k5,fun k hk=> ?_⟩
  cases k with
  |zero=>exact ⟨⟨rfl,ad,cs,by rw [h1]; simp [Addr.add],hF _ h2 h3,h3,h4,h5.keep fun b hb hlt=>⟨hF b hb hlt,hlt,rfl⟩⟩,rfl⟩
  |succ k=>rw [h1]; exact k6 k (by simpa using hk)
 | .ior et e::ps,x,vs,g,i,⟨v,r,i1,i2,h1,h2,h3,h4⟩,hn=>by
  rw [h2] at hn
  have hn':=List.nodup_append.1 hn
  have hni:=List.nodup_append.1 hn'.2.1
  have hn2:(g++i2).Nodup:=List.nodup_append.2 ⟨hn'.1,hni.2.1,fun b hb b' hb'=>hn'.2.2 b hb b' (List.mem_append_right _ hb')⟩
  obtain ⟨owns,k1,k2,k3,k4,k5,k6⟩:=qd6 hF ps h4 hn2
  refine ⟨i1::owns,by simp [k1],by rw [h1]; simp [k2],by simp [qch,k3],?_,?_,fun k hk=> ?_⟩
  ·rw [List.flatten_cons]
   refine List.nodup_append.2 ⟨hni.1,k4,fun b hb b' hb' e=> ?_⟩
   subst e
   rcases List.mem_append.1 (k5 b hb') with hm|hm
   ·exact hn'.2.2 b hm b (List.mem_append_left _ hb) rfl
   ·exact hni.2.2 b hb b hm rfl
  ·intro b hb
   rw [List.flatten_cons] at hb
   rw [h2]
   rcases List.mem_append.1 hb with hb|hb
   ·exact List.mem_append_right _ (List.mem_append_left _ hb)
   ·rcases List.mem_append.1 (k5 b hb) with hm|hm
    ·exact List.mem_append_left _ hm
    ·exact List.mem_append_right _ (List.mem_append_right _ hm)
  ·cases k with
   |zero=>exact ⟨by rw [h1]; exact h3.keep (fun b hb hlt=>⟨hF b hb hlt,hlt,rfl⟩) (fun _ _ _=>rfl),rfl⟩
   |succ k=>rw [h1]; exact k6 k (by simpa using hk)
 | .fn ts us::ps,x,vs,g,i,⟨v,r,h1,h2,h3⟩,hn=>by
  obtain ⟨owns,k1,k2,k3,k4,k5,k6⟩:=qd6 hF ps h3 hn
  refine ⟨[]::owns,by simp [k1],by rw [h1]; simp [k2],by simp [qch,k3],by simpa using k4,by simpa using k5,fun k hk=> ?_⟩
  cases k with
  |zero=>exact ⟨⟨rfl,by rw [h1]; exact h2.keep fun b hb hlt=>⟨hF b hb hlt,hlt,rfl⟩⟩,rfl⟩
  |succ k=>rw [h1]; exact k6 k (by simpa using hk)
 | .own et e::ps,x,vs,g,i,⟨v,r,g1,g2,h1,h2,h3,h4⟩,hn=>by
  rw [h2,List.append_assoc] at hn
  obtain ⟨n1,n2,n3⟩:=List.nodup_append.1 hn
  obtain ⟨owns,k1,k2,k3,k4,k5,k6⟩:=qd6 hF ps h4 n2
  refine ⟨g1::owns,by simp [k1],by rw [h1]; simp [k2],by simp [qch,k3],?_,?_,fun k hk=> ?_⟩
  ·rw [List.flatten_cons]
   exact List.nodup_append.2 ⟨n1,k4,fun b hb b' hb'=>n3 b hb b' (k5 b' hb')⟩
  ·intro b hb
   rw [List.flatten_cons] at hb
   rw [h2,List.append_assoc]
   rcases List.mem_append.1 hb with hb|hb
   ·exact List.mem_append_left _ hb
   ·exact List.mem_append_right _ (k5 b hb)
  ·cases k with
   |zero=>exact ⟨by rw [h1]; exact h3.keep (fun b hb hlt=>⟨hF b hb hlt,hlt,rfl⟩) (fun _ _ _=>rfl),rfl⟩
   |succ k=>rw [h1]; exact k6 k (by simpa using hk)
 | .io t::ps,x,vs,g,i,⟨b0,r,i2,cs,te,h1,h2,h3,h4,h5⟩,hn=>by
  rw [h2] at hn
  have hn':=List.nodup_append.1 hn
  have hni:=List.nodup_cons.1 hn'.2.1
  have hn2:(g++i2).Nodup:=List.nodup_append.2 ⟨hn'.1,hni.2,fun b hb b' hb'=>hn'.2.2 b hb b' (List.mem_cons_of_mem _ hb')⟩
  obtain ⟨owns,k1,k2,k3,k4,k5,k6⟩:=qd6 hF ps h5 hn2
  refine ⟨[b0]::owns,by simp [k1],by rw [h1]; simp [k2],by simp [qch,k3],?_,?_,fun k hk=> ?_⟩
  ·rw [List.flatten_cons]
   refine List.nodup_append.2 ⟨by simp,k4,fun b hb b' hb' e=> ?_⟩
   simp at hb
   subst hb; subst e
   rcases List.mem_append.1 (k5 b hb') with hm|hm
   ·exact hn'.2.2 b hm b List.mem_cons_self rfl
   ·exact hni.1 hm
  ·intro b hb
   rw [List.flatten_cons] at hb
   rw [h2]
   rcases List.mem_append.1 hb with hb|hb
   ·simp at hb; subst hb; simp
   ·rcases List.mem_append.1 (k5 b hb) with hm|hm
    ·exact List.mem_append_left _ hm
    ·exact List.mem_append_right _ (List.mem_cons_of_mem _ hm)
  ·cases k with
   |zero=>exact ⟨⟨b0,cs,[],te,by rw [h1]; rfl,h3,⟨rfl,h4.keep fun b hb hlt=>⟨hF b hb hlt,hlt,rfl⟩⟩,rfl⟩,rfl⟩
   |succ k=>rw [h1]; exact k6 k (by simpa using hk)
 | .iob t::ps,x,vs,g,i,⟨b0,r,g1,g2,i2,cs,te,h1,h0,h2,h3,h4,h5⟩,hn=>by
  subst h0; subst h2
  have hp:((g1++g2)++b0::i2).Perm ((b0::g1)++(g2++i2)):=List.perm_iff_count.2 fun a=>by simp only [List.count_append,List.count_cons]; omega
  have hn':=List.nodup_append.1 (hp.nodup_iff.1 hn)
  obtain ⟨owns,k1,k2,k3,k4,k5,k6⟩:=qd6 hF ps h5 hn'.2.1
  refine ⟨(b0::g1)::owns,by simp [k1],by rw [h1]; simp [k2],by simp [qch,k3],?_,?_,fun k hk=> ?_⟩
  ·rw [List.flatten_cons]
   exact List.nodup_append.2 ⟨hn'.1,k4,fun b hb b' hb'=>hn'.2.2 b hb b' (k5 b' hb')⟩
  ·intro b hb
   rw [List.flatten_cons] at hb
   refine hp.mem_iff.2 ?_
   rcases List.mem_append.1 hb with hb|hb
   ·exact List.mem_append_left _ hb
   ·exact List.mem_append_right _ (k5 b hb)
  ·cases k with
   |zero=>exact ⟨⟨b0,cs,g1,te,by rw [h1]; rfl,h3,h4.keep (fun b hb hlt=>⟨hF b hb hlt,hlt,rfl⟩) (fun _ _ _=>rfl),rfl⟩,rfl⟩
   |succ k=>rw [h1]; exact k6 k (by simpa using hk)
theorem qiM {fn:Func} {ps:List PM} {x:PMs.den ps} {k:Nat} (hl:(qch ps x).length=ps.length) (hk:k<ps.length):qA (qfF fn ps x) k=qA (qch ps x) k:=by
 simp [qA,qfF,List.getD_eq_getElem?_getD,List.getElem?_append_left (show k<(qch ps x).length by omega)]
theorem qhD {fn:Func} {ps:List PM} {x:PMs.den ps} {k:Nat} (hl:(qch ps x).length=ps.length) (hk:¬k<ps.length):qA (qfF fn ps x) k=(0,.undef):=by
 simp only [qA,qfF,List.getD_eq_getElem?_getD]
 rw [List.getElem?_append_right (by omega),List.getElem?_replicate]
 split <;> rfl
theorem qv8 {pn:Nat→Option Nat} {P:Program} {F:Nat→Prop} {fn:Func} {ps:List PM} {x:PMs.den ps} {vs:List Value} {g i:List Nat} {T:qlC} (hT:qd8 T w fun b=>F b∧¬b∈g++i) (hlen:ps.length≤fn.ntmps) (hp:qaA P w F ps x vs g i) (hpre:∀b∈g++i,¬F b∧b<w.heap.size) (hn:(g++i).Nodup):
  ∃own,qas { P,w0:=w,O:=fun b=>b∈g++i,G:=F,pn,T,hT } (qfF fn ps x) (vs.toArray++Array.replicate (fn.ntmps - vs.toArray.size) undef) w own:=by
 have base:∃owns:List (List Nat),owns.length=ps.length∧vs.length=ps.length∧(qch ps x).length=ps.length∧owns.flatten.Nodup∧(∀b∈owns.flatten,b∈g++i)∧
   ∀k,k<ps.length→qaO { P,ver:=fun s=>(qA (qfF fn ps x) s).1,tm:=fun s=>(vs.toArray++Array.replicate (fn.ntmps - vs.toArray.size) undef).getD s undef,w,F:=fun b=>F b,own:=fun _=>[],pn } (qA (qch ps x) k).2 (vs.getD k undef) (owns.getD k [])∧(qA (qch ps x) k).2.mentions=[]:=
  qd6 (X:= { P,ver:=_,tm:=_,w,F:=fun b=>F b,own:=fun _=>[],pn }) (fun b hb _=>hb) ps hp hn
 obtain ⟨owns,k1,k2,k3,k4,k5,k6⟩:=base
 obtain ⟨n1,n2⟩:=qfL k4
 have mem:∀s b,b∈owns.getD s []→b∈g++i:=fun s b hb=>by
  refine k5 b ?_
  rw [List.getD_eq_getElem?_getD] at hb
  cases hi:owns[s]? with
  |none=>rw [hi] at hb; simp at hb
  |some y=>
   rw [hi] at hb
   exact List.mem_flatten.2 ⟨y,List.mem_of_getElem? hi,by simpa using hb⟩
 have hsl:(qfF fn ps x).length=fn.ntmps:=by simp [qfF,k3]; omega
 have hz:∀k,¬k<ps.length→owns.getD k []=[]:=fun k hk=>by
  rw [List.getD_eq_getElem?_getD,List.getElem?_eq_none (by omega)]; rfl
 refine ⟨fun s=>owns.getD s [],⟨?_,qcQ.refl _ _,fun s b hb=>⟨.inl (mem s b hb),(hpre b (mem s b hb)).2⟩,n1,n2,fun s hs=>hz s (by omega),fun s hs=> ?_,fun s m hm=> ?_⟩⟩
 ·simp [hsl,k2]; omega
 ·by_cases hk:s<ps.length
  ·rw [qiM k3 hk]
   obtain ⟨h1,h2⟩:=k6 s hk
   have e:(vs.toArray++Array.replicate (fn.ntmps - vs.toArray.size) undef).getD s undef=vs.getD s undef:=by
    rw [Array.getD_eq_getD_getElem?,Array.getElem?_append_left (by simp [k2]; exact hk),List.getD_eq_getElem?_getD]
    simp
   rw [e]
   refine qaO.keep (X:= { P,ver:=fun s=>(qA (qfF fn ps x) s).1,tm:=fun s=>(vs.toArray++Array.replicate (fn.ntmps - vs.toArray.size) undef).getD s undef,w,F:=fun b=>F b,own:=fun _=>[],pn }) (X':=sit { P,w0:=w,O:=fun b=>b∈g++i,G:=F,pn,T,hT } (qfF fn ps x) (vs.toArray++Array.replicate (fn.ntmps - vs.toArray.size) undef) w (fun s=>owns.getD s [])) ⟨rfl,rfl⟩ (fun b hb hlt=>⟨⟨.inl hb,hlt,fun s' hs'=>(hpre b (mem s' b hs')).1 hb⟩,hlt,rfl⟩) (fun _ _ _=>rfl) (fun m hm=>by rw [h2] at hm; cases hm) h1
  ·rw [qhD k3 hk]
   trivial
 ·by_cases hk:s<ps.length
  ·rw [qiM k3 hk,(k6 s hk).2] at hm
   cases hm
  ·rw [qhD k3 hk] at hm
   cases hm
def qtC (tmps:Array Value):ResultVar→Sem Value
 | .tmp t=>pure (tmps.getD t undef)
 | .cell a t=>do loadVar t (←asAddr (tmps.getD a undef))
theorem qqJ {P:Program} {t:Nat} {u:Ty} (h:TyB P t u) {ad:Addr} {cs:List Value} (hc:qhf w ad cs) (hl:cs.length=u.size):(loadVar t ad).run P w= .ok (mkV u cs) w:=by
 have:=qgO (w:=w) h hc hl
 simpa only [Instr.loadAt,Instr.sureAddr,Sem.run_bind,Sem.run_pure,Result.andThen_ok] using this
theorem qmN (hE:qcc E C.P) (h:qas C σ tm w own):(r:RM)→ {v:ResultVar} → {x:r.den×List Nat} →(qn4 E r v).run (qA σ)=some x→∃z,(qtC tm v).run C.P w= .ok z w∧
  (match r,x with
   | .val t,x=>qaN w (FW (sit C σ tm w own) x.2) t x.1 z
   | .nz e,x=>qaN w (C.free w own) (.slice e) x.1 z∧(∀c,(nzC [.nz e] [v]).run (qA σ)=some c→qdR c→x.1=[]→z= .slice none 0 0)
   | .own et e,x=>∃s',x.2=[s']∧qak w (C.free w own) et e x.1 z (own s')∧∃ys,(qA σ s').2= .own et e ys)
 | .val t,.tmp s,x,he=>by
  simp only [qn4,Q.run_get] at he
  exact ⟨tm.getD s undef,rfl,qdx h (o:=⟨some s,(qA σ s).1,(qA σ s).2⟩) ⟨rfl,rfl,h.at_ s⟩ he⟩
 | .val u,.cell s t,x,he=>by
  simp only [qn4,Q.run_get] at he
  have hat:=h.at_ s
  split at he
  case h_2=>cases he
  rename_i c hc
  split at he
  case isFalse=>cases he
  rename_i hcond
  split at he
  case h_2=>cases he
  rename_i y f hg
  have:=Q.ret_some he
  subst this
  obtain ⟨b0,cs,bs',te,b1,b2,b3,b4⟩:=h.box (a:= { tmps:=tm,defers:=[] }) hc
  obtain ⟨q1,q2,q3⟩:=b3.get hg
  have hcl:=b3.length
  rw [List.drop_zero,List.take_of_length_le (by omega)] at q2
  rw [List.drop_zero,List.take_of_length_le (by omega)] at q3
  refine ⟨mkV u cs,?_,qaN.ofCells ?_⟩
  ·have hcs:qhf w ⟨b0,0,none⟩ cs:=by
    intro j u hj
    rw [qai,qia b2,Nat.zero_add]
    exact hj
   have hl:=qqJ (hE.ty t u hcond.1) hcs (by omega)
   have b1:tm.getD s undef=ptr b0 0:=b1
   simp only [qtC,b1,ptr,asAddr,Sem.run_bind,Sem.run_pure,Result.andThen_ok]
   exact hl
  ·cases f with
   |false=>exact (q3 rfl).keep fun b hb hlt=>⟨.inl hb,hlt,rfl⟩
   |true=>
    refine q2.keep fun b hb hlt=>⟨?_,hlt,rfl⟩
    rcases hb with hb|hb
    ·exact .inl hb
    ·refine .inr ⟨s,List.mem_singleton.2 rfl,by show b∈own s; rw [b4]; exact List.mem_cons_of_mem _ hb,fun e=> ?_⟩
     have e:tm.getD s undef=ptr b 0:=e
     have b1:tm.getD s undef=ptr b0 0:=b1
     rw [b1] at e
     have e:=(qfG e).1
     subst e
     have hn:=h.nodup s
     rw [b4] at hn
     exact (List.nodup_cons.1 hn).1 hb
 | .own et e,.tmp s,x,he=>by
  simp only [qn4,Q.run_get] at he
  have hat:=h.at_ s
  split at he
  ·rename_i et' e' xs' h3
   rw [h3] at hat
   split at he
   ·rename_i het
    subst het
    split at he
    ·rename_i xs has
     have:=Q.ret_some he
     subst this
     obtain ⟨e1,e2⟩:=Ty.as_some has
     injection e1 with e1
     subst e1
     have e2:xs'=xs:=e2
     subst e2
     exact ⟨_,rfl,s,rfl,hat,_,h3⟩
    ·cases he
   ·cases he
  ·rename_i s' v0 h3
   rw [h3] at hat
   simp only [Q.run_get] at he
   split at he
   ·rename_i hv
    have hu:tm.getD s' undef=tm.getD s undef:=hat.2 hv
    have hat':=h.at_ s'
    rw [hu] at hat'
    split at he
    ·rename_i et' e' xs' h4
     rw [h4] at hat'
     split at he
     ·rename_i het
      subst het
      split at he
      ·rename_i xs has
       have:=Q.ret_some he
       subst this
       obtain ⟨e1,e2⟩:=Ty.as_some has
       injection e1 with e1
       subst e1
       have e2:xs'=xs:=e2
       subst e2
       exact ⟨_,rfl,s',rfl,hat',_,h4⟩
      ·cases he
     ·cases he
    ·cases he
   ·cases he
  ·cases he
 | .own _ _,.cell _ _,x,he=>by cases he
 | .nz _,.cell _ _,x,he=>by cases he
 | .nz e,.tmp s,x,he=>by
  simp only [qn4,Q.run_get] at he
  have hat:=h.at_ s
  split at he
  ·rename_i et e' h3
   rw [h3] at hat
   have:=Q.ret_some he
   subst this
   have hat:_∧_:=hat
   refine ⟨_,rfl,?_,fun c _ _ _=>hat.2⟩
   rw [hat.2]
   exact qaN.ofSlice (.inl ⟨rfl,rfl⟩)
  ·rename_i e' xs h3
   rw [h3] at hat
   split at he
   case h_2=>cases he
   rename_i ys has
   have:=Q.ret_some he
   subst this
   obtain ⟨e1,e2⟩:=Ty.as_some has
   injection e1 with e1
   subst e1
   have e2:xs=ys:=e2
   subst e2
   exact ⟨_,rfl,hat.2.1,fun c _ _ h0=>hat.2.2 h0⟩
  ·rename_i e' xs h3
   rw [h3] at hat
   split at he
   case h_2=>cases he
   rename_i ys has
   have:=Q.ret_some he
   subst this
   obtain ⟨e1,e2⟩:=Ty.as_some has
   injection e1 with e1
   subst e1
   have e2:xs=ys:=e2
   subst e2
   refine ⟨_,rfl,hat.2,fun c hc hb h0=> ?_⟩
   simp only [nzC,Q.run_get,h3] at hc
   have:=Q.ret_some hc
   subst this
   have h0:xs=[]:=h0
   subst h0
   have:=hb _ (List.mem_singleton.2 rfl)
   rw [qmL,qt] at this
   simp at this
  ·cases he
theorem qoj (r:RM) (v:ResultVar) (rs:List RM) (vs:List ResultVar) {c:List Bool} (hc:(nzC (r::rs) (v::vs)).run (qA σ)=some c) (hb:qdR c):(∀c,(nzC [r] [v]).run (qA σ)=some c→qdR c)∧∃c2,(nzC rs vs).run (qA σ)=some c2∧qdR c2:=by
 have none:(nzC (r::rs) (v::vs)=nzC rs vs)→nzC [r] [v]= .ret []→(∀c,(nzC [r] [v]).run (qA σ)=some c→qdR c)∧∃c2,(nzC rs vs).run (qA σ)=some c2∧qdR c2:=fun e1 e2=>by
  rw [e1] at hc
  refine ⟨fun c h=> ?_,c,hc,hb⟩
  rw [e2] at h
  have:=Q.ret_some h
  subst this
  intro b hb
  cases hb
 cases r with
 |val t=>exact none rfl rfl
 |own et e=>exact none rfl rfl
 |nz e=>
  cases v with
  |cell a t=>exact none rfl rfl
  |tmp s=>
   simp only [nzC,Q.run_get] at hc⊢
   split at hc
   ·rename_i e' xs h3
    obtain ⟨c2,h1,h2⟩:=Q.bind_some hc
    have:=Q.ret_some h2
    subst this
    refine ⟨fun c h=> ?_,c2,h1,fun b hm=>hb b (List.mem_cons_of_mem _ hm)⟩
    have:=Q.ret_some (show (Q.ret [neI (qr xs) 0]).run (qA σ)=some c from h)
    subst this
    intro b hm
    exact hb b (by rw [List.mem_singleton.1 hm]; exact List.mem_cons_self)
   ·rename_i h3
    refine ⟨fun c h=> ?_,c,hc,hb⟩
    have:=Q.ret_some h
    subst this
    intro b hb
    cases hb
theorem qiQ (hE:qcc E C.P) (h:qas C σ tm w own):(rs:List RM)→ {vars:List ResultVar} → {q:RMs.den rs×List Nat×List Nat} →(qk4 E rs vars).run (qA σ)=some q→(∃c,(nzC rs vars).run (qA σ)=some c∧qdR c)→∃(vs:List Value) (bs:List Nat),(vars.mapM (qtC tm)).run C.P w= .ok vs w∧
  qa7 w (FW (sit C σ tm w own) q.2.2) (qdA rs q.1) vs bs∧(∀b∈bs,∃s∈q.2.1,b∈own s)∧(q.2.1.Nodup→bs.Nodup)∧∀s∈q.2.1,∃et e ys,(qA σ s).2= .own et e ys
 |[],[],q,he,_=>by
  have:=Q.ret_some he
  subst this
  exact ⟨[],[],rfl,⟨rfl,rfl⟩,fun b hb=>(by cases hb),fun _=>List.nodup_nil,fun s hs=>(by cases hs)⟩
 | .nz e::rs,v::vars,q,he,⟨c,hc,hb⟩=>by
  simp only [qk4] at he
  obtain ⟨x,h1,he⟩:=Q.bind_some he
  obtain ⟨q',h2,he⟩:=Q.bind_some he
  have:=Q.ret_some he
  subst this
  obtain ⟨n1,n2⟩:=qoj _ _ _ _ hc hb
  obtain ⟨z,hz,hr,hr2⟩:=qmN hE h (.nz e) h1
  obtain ⟨vs,bs,k1,k2,k3,k4,k5⟩:=qiQ hE h rs h2 n2
  have hnz:∃c,(nzC [.nz e] [v]).run (qA σ)=some c:=by
   cases v with
   |cell a t=>exact ⟨[],rfl⟩
   |tmp s=>
    simp only [nzC,Q.run_get]
    split
    ·exact ⟨_,rfl⟩
    ·exact ⟨_,rfl⟩
  obtain ⟨c0,hc0⟩:=hnz
  refine ⟨z::vs,bs,by simp only [List.mapM_cons,Sem.run_bind,hz,Result.andThen_ok,k1,Sem.run_pure],⟨_,_,[],bs,rfl,rfl,⟨rfl,hr.mono fun b hb _=> .inl hb,hr2 c0 hc0 (n1 c0 hc0)⟩,k2⟩,k3,k4,k5⟩
 | .val t::rs,v::vars,q,he,⟨c,hc,hb⟩=>by
  simp only [qk4] at he
  obtain ⟨x,h1,he⟩:=Q.bind_some he
  obtain ⟨q',h2,he⟩:=Q.bind_some he
  have:=Q.ret_some he
  subst this
  obtain ⟨z,hz,hr⟩:=qmN hE h (.val t) h1
  obtain ⟨vs,bs,k1,k2,k3,k4,k5⟩:=qiQ hE h rs h2 (qoj _ _ _ _ hc hb).2
  refine ⟨z::vs,bs,by simp only [List.mapM_cons,Sem.run_bind,hz,Result.andThen_ok,k1,Sem.run_pure],⟨_,_,[],bs,rfl,rfl,⟨rfl,hr.mono fun b hb _=>FW.mono (fun s hs=>List.mem_append_left _ hs) hb⟩,qa7.turn rs (.inr fun b hb _=>FW.mono (fun s hs=>List.mem_append_right _ hs) hb) k2⟩,k3,k4,k5⟩
 | .own et e::rs,v::vars,q,he,⟨c,hc,hb⟩=>by
  simp only [qk4] at he
  obtain ⟨x,h1,he⟩:=Q.bind_some he
  obtain ⟨q',h2,he⟩:=Q.bind_some he
  have:=Q.ret_some he
  subst this
  obtain ⟨z,hz,s',hx,hr,ys,hys⟩:=qmN hE h (.own et e) h1
  obtain ⟨vs,bs,k1,k2,k3,k4,k5⟩:=qiQ hE h rs h2 (qoj _ _ _ _ hc hb).2
  refine ⟨z::vs,own s'++bs,by simp only [List.mapM_cons,Sem.run_bind,hz,Result.andThen_ok,k1,Sem.run_pure],⟨_,_,own s',bs,rfl,rfl,hr.keep (fun b hb hlt=>⟨.inl hb,hlt,rfl⟩) (fun _ _ _=>rfl),k2⟩,fun b hb=> ?_,fun hn=> ?_,fun s2 hs2=> ?_⟩
  ·rcases List.mem_append.1 hb with hb|hb
   ·exact ⟨s',by simp [hx],hb⟩
   ·obtain ⟨s2,g1,g2⟩:=k3 b hb
    exact ⟨s2,List.mem_append_right _ g1,g2⟩
  ·simp only [hx] at hn
   have hn':=List.nodup_cons.1 hn
   refine List.nodup_append.2 ⟨h.nodup s',k4 hn'.2,fun b hb b' hb' e=> ?_⟩
   subst e
   obtain ⟨s2,g1,g2⟩:=k3 b hb'
   have:=h.apart s' s2 b hb g2
   subst this
   exact hn'.1 g1
  ·simp only [hx] at hs2
   rcases List.mem_cons.1 hs2 with rfl|hs2
   ·exact ⟨et,e,ys,hys⟩
   ·exact k5 s2 hs2
 |[],_::_,_,he,_=>by cases he
 | .val _::_,[],_,he,_=>by cases he
 | .own _ _::_,[],_,he,_=>by cases he
 | .nz _::_,[],_,he,_=>by cases he
def qcX (tm:Nat→Value):List PM→Nat→List Value→List Nat→Prop
 |[],_,_,i=>i=[]
 | .io _::ps,k,as,i=>∃b i2,i=b::i2∧tm k=ptr b 0∧qcX tm ps (k+1) as.tail i2
 | .iob _::ps,k,as,i=>∃b i2,i=b::i2∧tm k=ptr b 0∧qcX tm ps (k+1) as.tail i2
 | .ior _ _::ps,k,as,i=>∃i1 i2,i=i1++i2∧tm k=as.headD undef∧i1=(as.headD undef).ownBlock.toList∧qcX tm ps (k+1) as.tail i2
 | .val _::ps,k,as,i=>qcX tm ps (k+1) as.tail i
 | .own _ _::ps,k,as,i=>qcX tm ps (k+1) as.tail i
 | .fn _ _::ps,k,as,i=>qcX tm ps (k+1) as.tail i
 | .nil _ _::ps,k,as,i=>qcX tm ps (k+1) as.tail i
 | .rd _::ps,k,as,i=>qcX tm ps (k+1) as.tail i
theorem qcX.congr {tm tm':Nat→Value} :(ps:List PM)→(k:Nat)→ {as:List Value} → {i:List Nat} →(∀s∈qdg ps k,tm' s=tm s)→qcX tm ps k as i→qcX tm' ps k as i
 |[],_,_,_,_,h=>h
 | .io _::ps,k,_,_,he,⟨b,i2,h1,h2,h3⟩=>⟨b,i2,h1,by rw [he k (by simp [qdg])]; exact h2,h3.congr ps (k+1) fun s hs=>he s (by simp [qdg,hs])⟩
 | .iob _::ps,k,_,_,he,⟨b,i2,h1,h2,h3⟩=>⟨b,i2,h1,by rw [he k (by simp [qdg])]; exact h2,h3.congr ps (k+1) fun s hs=>he s (by simp [qdg,hs])⟩
 | .ior _ _::ps,k,_,_,he,⟨i1,i2,h1,h2,h3,h4⟩=>⟨i1,i2,h1,by rw [he k (by simp [qdg])]; exact h2,h3,h4.congr ps (k+1) fun s hs=>he s (by simp [qdg,hs])⟩
 | .val _::ps,k,_,_,he,h=>qcX.congr ps (k+1) he h
 | .own _ _::ps,k,_,_,he,h=>qcX.congr ps (k+1) he h
 | .fn _ _::ps,k,_,_,he,h=>qcX.congr ps (k+1) he h
 | .nil _ _::ps,k,_,_,he,h=>qcX.congr ps (k+1) he h
 | .rd _::ps,k,_,_,he,h=>qcX.congr ps (k+1) he h
theorem qcX.boxes {tm:Nat→Value} :(ps:List PM)→(k:Nat)→ {as:List Value} → {i:List Nat} →qcX tm ps k as i→∃ib:List Nat,(qcL ps k).map tm=ib.map (fun b=>ptr b 0)
 |[],_,_,_,_=>⟨[],rfl⟩
 | .io _::ps,k,_,_,⟨b,i2,h1,h2,h3⟩=>by
  obtain ⟨ib,hib⟩:=h3.boxes ps (k+1)
  exact ⟨b::ib,by simp [qcL,h2,hib]⟩
 | .iob _::ps,k,_,_,⟨b,i2,h1,h2,h3⟩=>by
  obtain ⟨ib,hib⟩:=h3.boxes ps (k+1)
  exact ⟨b::ib,by simp [qcL,h2,hib]⟩
 | .ior _ _::ps,k,_,_,⟨i1,i2,h1,h2,h3,h4⟩=>by
  obtain ⟨ib,hib⟩:=h4.boxes ps (k+1)
  exact ⟨ib,by simp [qcL,hib]⟩
 | .val _::ps,k,_,_,h=>qcX.boxes ps (k+1) h
 | .own _ _::ps,k,_,_,h=>qcX.boxes ps (k+1) h
 | .fn _ _::ps,k,_,_,h=>qcX.boxes ps (k+1) h
 | .nil _ _::ps,k,_,_,h=>qcX.boxes ps (k+1) h
 | .rd _::ps,k,_,_,h=>qcX.boxes ps (k+1) h
theorem qc3:(ps:List PM)→(k:Nat)→∀s∈qcL ps k,s∈qdg ps k
 |[],_,_,h=>h
 | .io _::ps,k,s,h=>by
  rcases List.mem_cons.1 h with rfl|h
  ·simp [qdg]
  ·simp [qdg,qc3 ps (k+1) s h]
 | .iob _::ps,k,s,h=>by
  rcases List.mem_cons.1 h with rfl|h
  ·simp [qdg]
  ·simp [qdg,qc3 ps (k+1) s h]
 | .ior _ _::ps,k,s,h=>by simp [qdg,qc3 ps (k+1) s h]
 | .val _::ps,k,s,h=>qc3 ps (k+1) s h
 | .own _ _::ps,k,s,h=>qc3 ps (k+1) s h
 | .fn _ _::ps,k,s,h=>qc3 ps (k+1) s h
 | .nil _ _::ps,k,s,h=>qc3 ps (k+1) s h
 | .rd _::ps,k,s,h=>qc3 ps (k+1) s h
theorem qd1 (h:qas C σ a.tmps w own):(ps:List PM)→(k:Nat)→ {z:PMs.ioDen ps} → {as:List Value} → {i:List Nat} →(qgS ps k).run (qA σ)=some z→
  qcX (fun s=>a.tmps.getD s undef) ps k as i→∃js:List Nat,js.Nodup∧(∀F:Nat→Prop,(∀b s c,k≤s→(qA σ s).2= .box c→b∈(own s).tail→b∉js→F b)→(∀b,C.free w own b→F b)→qdm w F ps z as i js)∧
   (∀b∈i,∃s,b∈own s∧((a.tmps.getD s undef=ptr b 0∧∃c,(qA σ s).2= .box c)∨(s∈qdb ps k∧∃et e ys,(qA σ s).2= .own et e ys)))∧
   ∀b∈js,∃s,k≤s∧b∈own s∧s∈qdb ps k∧(∃c,(qA σ s).2= .box c)∧a.tmps.getD s undef≠ptr b 0
 |[],k,z,as,i,_,hi=>by
  have hi:i=[]:=hi
  subst hi
  exact ⟨[],List.nodup_nil,fun _ _ _=>⟨rfl,rfl⟩,fun b hb=>(by cases hb),fun b hb=>(by cases hb)⟩
 | .val _::ps,k,z,as,i,he,hi=>by
  obtain ⟨js,n,g0,g1,g2⟩:=qd1 h ps (k+1) (z:=z) he hi
  exact ⟨js,n,fun F hF hF0=>g0 F (fun b s c hk=>hF b s c (by omega)) hF0,g1,fun b hb=>by
   obtain ⟨s,q1,q2⟩:=g2 b hb
   exact ⟨s,by omega,q2⟩⟩
 | .own _ _::ps,k,z,as,i,he,hi=>by
  obtain ⟨js,n,g0,g1,g2⟩:=qd1 h ps (k+1) (z:=z) he hi
  exact ⟨js,n,fun F hF hF0=>g0 F (fun b s c hk=>hF b s c (by omega)) hF0,g1,fun b hb=>by
   obtain ⟨s,q1,q2⟩:=g2 b hb
   exact ⟨s,by omega,q2⟩⟩
 | .fn _ _::ps,k,z,as,i,he,hi=>by
  obtain ⟨js,n,g0,g1,g2⟩:=qd1 h ps (k+1) (z:=z) he hi
  exact ⟨js,n,fun F hF hF0=>g0 F (fun b s c hk=>hF b s c (by omega)) hF0,g1,fun b hb=>by
   obtain ⟨s,q1,q2⟩:=g2 b hb
   exact ⟨s,by omega,q2⟩⟩
 | .nil _ _::ps,k,z,as,i,he,hi=>by
  obtain ⟨js,n,g0,g1,g2⟩:=qd1 h ps (k+1) (z:=z) he hi
  exact ⟨js,n,fun F hF hF0=>g0 F (fun b s c hk=>hF b s c (by omega)) hF0,g1,fun b hb=>by
   obtain ⟨s,q1,q2⟩:=g2 b hb
   exact ⟨s,by omega,q2⟩⟩
 | .rd _::ps,k,z,as,i,he,hi=>by
  obtain ⟨js,n,g0,g1,g2⟩:=qd1 h ps (k+1) (z:=z) he hi
  exact ⟨js,n,fun F hF hF0=>g0 F (fun b s c hk=>hF b s c (by omega)) hF0,g1,fun b hb=>by
   obtain ⟨s,q1,q2⟩:=g2 b hb
   exact ⟨s,by omega,q2⟩⟩
 | .ior et e::ps,k,z,as,i,he,⟨i1,i2,p1,p2,p3,p4⟩=>by
  simp only [qgS,Q.run_get] at he
  split at he
  case h_2=>cases he
  rename_i et' e' xs hx
  split at he
  case isFalse=>cases he
  rename_i hty
  subst hty
  split at he
  case h_2=>cases he
  rename_i x hs
  obtain ⟨r,h1,he⟩:=Q.bind_some he
  have:=Q.ret_some he
  subst this
  obtain ⟨e1,e2⟩:=Ty.as_some hs
  injection e1 with e1
  subst e1
  have e2:xs=x:=e2
  subst e2
  obtain ⟨js,hjn,g1,g2,g3⟩:=qd1 h ps (k+1) h1 p4
  have hat:=h.at_ k
  rw [hx,show a.tmps.getD k undef=as.headD undef from p2] at hat
  have hown:qak w (C.free w own) et e' xs (as.headD undef) (own k):=hat
  have hb:own k=i1:=by
   obtain ⟨cells,_,hb,_⟩:=hown
   rw [hb,p3]
  refine ⟨js,hjn,fun F hF hF0=>⟨i1,i2,p1,?_,g1 F (fun b s c hk=>hF b s c (by omega)) hF0⟩,fun b hbm=> ?_,fun b hb=> ?_⟩
  ·rw [hb] at hown
   exact hown.keep (fun b hb hlt=>⟨hF0 b hb,hlt,rfl⟩) (fun _ _ _=>rfl)
  ·rw [p1] at hbm
   rcases List.mem_append.1 hbm with hbm|hbm
   ·exact ⟨k,by rw [hb]; exact hbm,.inr ⟨by simp [qdb],et,e',xs,hx⟩⟩
   ·obtain ⟨s,q1,q2⟩:=g2 b hbm
    refine ⟨s,q1,q2.imp id fun ⟨q3,q4⟩=>⟨by simp [qdb,q3],q4⟩⟩
  ·obtain ⟨s,q0,q1,q2,q3⟩:=g3 b hb
   exact ⟨s,by omega,q1,by simp [qdb,q2],q3⟩
 | .io t::ps,k,z,as,i,he,⟨b,i2,p1,p2,p3⟩=>by
  subst p1
  simp only [qgS,Q.run_get] at he
  split at he
  case h_2=>cases he
  rename_i c hc
  split at he
  case h_2=>cases he
  rename_i x fl hg
  split at hg
  case isFalse=>cases hg
  rename_i hsz
  obtain ⟨r,h1,he⟩:=Q.bind_some he
  have:=Q.ret_some he
  subst this
  obtain ⟨b0,cs,bs',te,b1,b2,b3,b4⟩:=h.box hc
  have hb:b0=b:=(qfG (b1.symm.trans p2)).1
  subst hb
  obtain ⟨js,hjn,g1,g2,g3⟩:=qd1 h ps (k+1) h1 p3
  obtain ⟨q1,q2,_⟩:=b3.get hg
  have hcl:=b3.length
  rw [List.drop_zero,List.take_of_length_le (by omega)] at q2
  refine ⟨js,hjn,fun F hF hF0=>⟨b0,i2,cs,te,rfl,b2,q2.keep fun b hb hlt=>⟨?_,hlt,rfl⟩,g1 F (fun b s c hk=>hF b s c (by omega)) hF0⟩,fun b hb=> ?_,fun b hb=> ?_⟩
  ·rcases hb with hb|hb
   ·exact hF0 b hb
   ·refine hF b k c (Nat.le_refl _) hc (by rw [b4]; exact hb) fun hj=> ?_
    obtain ⟨s,r0,r1,_⟩:=g3 b hj
    have:=h.apart s k b r1 (by rw [b4]; exact List.mem_cons_of_mem _ hb)
    omega
  ·rcases List.mem_cons.1 hb with rfl|hb
   ·exact ⟨k,by rw [b4]; exact List.mem_cons_self,.inl ⟨b1,c,hc⟩⟩
   ·exact g2 b hb
  ·obtain ⟨s,q0,q1,q2,q3⟩:=g3 b hb
   exact ⟨s,by omega,q1,by simpa [qdb] using q2,q3⟩
 | .iob t::ps,k,z,as,i,he,⟨b,i2,p1,p2,p3⟩=>by
  subst p1
  simp only [qgS,Q.run_get] at he
  split at he
  case h_2=>cases he
  rename_i c hc
  split at he
  case h_2=>cases he
  rename_i x hg
  obtain ⟨r,h1,he⟩:=Q.bind_some he
  have:=Q.ret_some he
  subst this
  obtain ⟨b0,cs,bs',te,b1,b2,b3,b4⟩:=h.box hc
  have hb:b0=b:=(qfG (b1.symm.trans p2)).1
  subst hb
  obtain ⟨js,hjn,g1,g2,g3⟩:=qd1 h ps (k+1) h1 p3
  have hnd:=h.nodup k
  rw [b4] at hnd
  have hnd:=List.nodup_cons.1 hnd
  obtain ⟨j1,q1,q2⟩:=b3.fit t hnd.2 hg
  have hk:∀b∈j1,b∈own k:=fun b hb=>by rw [b4]; exact List.mem_cons_of_mem _ (q1.subset hb)
  have hjk:∀b∈own k,b∉js:=fun b hb hj=>by
   obtain ⟨s,r0,r1,_⟩:=g3 b hj
   have:=h.apart s k b r1 hb
   omega
  refine ⟨j1++js,List.nodup_append.2 ⟨hnd.2.sublist q1,hjn,fun b hb b' hb' e=>hjk b (hk b hb) (e ▸ hb')⟩,fun F hF hF0=>⟨b0,i2,j1,js,cs,te,rfl,rfl,b2,q2 F hF0 fun k' hk' hkn=> ?_,g1 F (fun b s c' hks hc' hb hnj=> ?_) hF0⟩,fun b hb=> ?_,fun b hb=> ?_⟩
  ·refine hF k' k c (Nat.le_refl _) hc (by rw [b4]; exact hk') fun hm=> ?_
   rcases List.mem_append.1 hm with hm|hm
   ·exact hkn hm
   ·exact hjk k' (by rw [b4]; exact List.mem_cons_of_mem _ hk') hm
  ·by_cases hj:b∈j1
   ·have:=h.apart s k b (List.mem_of_mem_tail hb) (hk b hj)
    omega
   ·exact hF b s c' (by omega) hc' hb fun hm=>(List.mem_append.1 hm).elim hj hnj
  ·rcases List.mem_cons.1 hb with rfl|hb
   ·exact ⟨k,by rw [b4]; exact List.mem_cons_self,.inl ⟨b1,c,hc⟩⟩
   ·obtain ⟨s,r1,r2⟩:=g2 b hb
    exact ⟨s,r1,r2.imp id fun ⟨q3,q4⟩=>⟨by simp [qdb,q3],q4⟩⟩
  ·rcases List.mem_append.1 hb with hb|hb
   ·refine ⟨k,Nat.le_refl _,hk b hb,by simp [qdb],⟨c,hc⟩,fun e=> ?_⟩
    have e2:a.tmps.getD k undef=ptr b0 0:=b1
    have:=(qfG (e2.symm.trans e)).1
    subst this
    exact hnd.1 (q1.subset hb)
   ·obtain ⟨s,r0,r1,r2,r3⟩:=g3 b hb
    exact ⟨s,by omega,r1,by simp [qdb,r2],r3⟩
end
end Go.Vi
namespace Go.Vi
open Go.RowKit
theorem qqY {P:Program} {w:World} {fn:Func} {tmps:Array Value} {vs:List Value} (h:(fn.results.toList.mapM (qtC tmps)).run P w= .ok vs w):(results fn tmps).run P w=Result.ok (qfg vs) w:=by
 have e:results fn tmps=(do
   let vs ←fn.results.mapM (qtC tmps)
   pure (if h:vs.size=1 then vs[0] else .tuple vs)):=rfl
 rw [e,Array.mapM_eq_mapM_toList]
 simp only [Sem.run_bind,Sem.run_map,h,Result.andThen_ok,Sem.run_pure]
 congr 1
 match vs with
 |[]=>rfl
 |[v]=>rfl
 |v::u::r=>simp [qfg]
theorem qdv {P:Program} {w:World} {F:Nat→Prop} (tm:Nat→Value):(ps:List PM)→(k:Nat)→ {x:PMs.den ps} → {vs:List Value} → {g i:List Nat} →qaA P w F ps x vs g i→(∀j,j<ps.length→tm (k+j)=vs.getD j undef)→qcX tm ps k vs i
 |[],k,x,vs,g,i,⟨_,_,h3⟩,_=>h3
 | .val t::ps,k,x,vs,g,i,⟨v,r,h1,h2,h3⟩,ht=>by
  subst h1
  exact qdv tm ps (k+1) h3 fun j hj=>by
   have:=ht (j+1) (by simpa using hj)
   rw [show k+1+j=k+(j+1) from by omega]
   simpa using this
 | .nil _ _::ps,k,x,vs,g,i,⟨r,h1,h3⟩,ht=>by
  subst h1
  exact qdv tm ps (k+1) h3 fun j hj=>by
   have:=ht (j+1) (by simpa using hj)
   rw [show k+1+j=k+(j+1) from by omega]
   simpa using this
 | .rd _::ps,k,x,vs,g,i,⟨_,_,r,h1,_,_,_,_,h3⟩,ht=>by
  subst h1
  exact qdv tm ps (k+1) h3 fun j hj=>by
   have:=ht (j+1) (by simpa using hj)
   rw [show k+1+j=k+(j+1) from by omega]
   simpa using this
 | .fn _ _::ps,k,x,vs,g,i,⟨v,r,h1,h2,h3⟩,ht=>by
  subst h1
  exact qdv tm ps (k+1) h3 fun j hj=>by
   have:=ht (j+1) (by simpa using hj)
   rw [show k+1+j=k+(j+1) from by omega]
   simpa using this
 | .own _ _::ps,k,x,vs,g,i,⟨v,r,g1,g2,h1,h2,h3,h4⟩,ht=>by
  subst h1
  exact qdv tm ps (k+1) h4 fun j hj=>by
   have:=ht (j+1) (by simpa using hj)
   rw [show k+1+j=k+(j+1) from by omega]
   simpa using this
 | .ior _ _::ps,k,x,vs,g,i,⟨v,r,i1,i2,h1,h2,h3,h4⟩,ht=>by
  subst h1
  have h0:tm k=v:=by simpa using ht 0 (by simp)
  refine ⟨i1,i2,h2,h0,?_,qdv tm ps (k+1) h4 fun j hj=> ?_⟩
  ·obtain ⟨cells,_,hb,_⟩:=h3
   exact hb
  ·have:=ht (j+1) (by simpa using hj)
   rw [show k+1+j=k+(j+1) from by omega]
   simpa using this
 | .iob t::ps,k,x,vs,g,i,⟨b,r,g1,g2,i2,cs,te,h1,h0,h2,h3,h4,h5⟩,ht=>by
  subst h1
  have h0:tm k=ptr b 0:=by simpa using ht 0 (by simp)
  refine ⟨b,i2,h2,h0,qdv tm ps (k+1) h5 fun j hj=> ?_⟩
  have:=ht (j+1) (by simpa using hj)
  rw [show k+1+j=k+(j+1) from by omega]
  simpa using this
 | .io t::ps,k,x,vs,g,i,⟨b,r,i2,cs,te,h1,h2,h3,h4,h5⟩,ht=>by
  subst h1
  have h0:tm k=ptr b 0:=by simpa using ht 0 (by simp)
  refine ⟨b,i2,h2,h0,qdv tm ps (k+1) h5 fun j hj=> ?_⟩
  have:=ht (j+1) (by simpa using hj)
  rw [show k+1+j=k+(j+1) from by omega]
  simpa using this
end Go.Vi
namespace Go.Vi
open Go.RowKit
theorem quE (vs:List Value) (n:Nat) (j:Nat):(vs.toArray++Array.replicate n undef).getD j undef=vs.getD j undef:=by
 rw [Array.getD_eq_getD_getElem?,List.getD_eq_getElem?_getD]
 by_cases h:j<vs.length
 ·rw [Array.getElem?_append_left (by simpa using h)]
  simp
 ·rw [Array.getElem?_append_right (by simpa using h),List.getElem?_eq_none (by omega),Array.getElem?_replicate]
  split <;> rfl
theorem qtb {P:Program} {E:Env} (hE:qcc E P) {w w':World} {F:Nat→Prop} {fn:Func} {ps:List PM} {rs:List RM} {g i:List Nat} {σ:St} {a:Act} {own:Nat→List Nat} {y:RMs.den rs×PMs.ioDen ps}
  (hpre:∀b∈g++i,¬F b∧b<w.heap.size) (hn:(g++i).Nodup)
  {pn:Nat→Option Nat} {hT:qd8 E.tabs w fun b=>F b∧¬b∈g++i} (h:qas { P,w0:=w,O:=fun b=>b∈g++i,G:=F,pn,T:=E.tabs,hT } σ a.tmps w' own) {as:List Value} (hpin:qcX (fun s=>a.tmps.getD s undef) ps 0 as i) (he:qpH E fn ps rs σ=some y):
  ∃vs bs js,(results fn a.tmps).run P w'=Result.ok (qfg vs) w'∧(bs++js).Nodup∧(∀b∈bs++js,(b∈g∨w.heap.size≤b)∧b<w'.heap.size)∧qa7 w' (qjH w F g i (bs++js)) (qdA rs y.1) vs bs∧qdm w' (qjH w F g i (bs++js)) ps y.2 as i js∧qcQ (fun b=>b∈g++i) w w':=by
 haveI:Tabbed E { P,w0:=w,O:=fun b=>b∈g++i,G:=F,pn,T:=E.tabs,hT } :=⟨rfl⟩
 unfold qpH at he
 split at he
 case h_2=>cases he
 rename_i y1 gone ow z cc hr hz hcc
 split at he
 case isFalse=>cases he
 rename_i hc
 obtain ⟨hca,he⟩:=qin he
 injection he with he
 subst he
 simp only [Bool.and_eq_true] at hc
 have hgn:=qex hc.1.1
 have hap:=qfZ hc.1.2
 have hrow:=qfZ hc.2
 obtain ⟨vs0,bs,k1,k2,k3,k4,k5⟩:=qiQ hE h rs hr ⟨cc,hcc,hca⟩
 obtain ⟨js,hjn,hios,hio,hj⟩:=qd1 h ps 0 hz hpin
 have hbi:∀b∈bs,b∉i:=fun b hb hi=>by
  obtain ⟨s,hs,hbs⟩:=k3 b hb
  obtain ⟨et,e,ys,hys⟩:=k5 s hs
  obtain ⟨s',h1,h2⟩:=hio b hi
  have:=h.apart s s' b hbs h1
  subst this
  rcases h2 with ⟨_,c,h3⟩|⟨h3,_⟩
  ·rw [h3] at hys
   cases hys
  ·exact hrow s (List.mem_append_left _ hs) h3
 have hbj:∀b∈bs,b∉js:=fun b hb hjb=>by
  obtain ⟨s,hs,hbs⟩:=k3 b hb
  obtain ⟨et,e,ys,hys⟩:=k5 s hs
  obtain ⟨s',_,h1,_,⟨c,h2⟩,_⟩:=hj b hjb
  have:=h.apart s s' b hbs h1
  subst this
  rw [h2] at hys
  cases hys
 have hji:∀b∈js,b∉i:=fun b hb hi=>by
  obtain ⟨s,_,h1,_,⟨c,h2⟩,h3⟩:=hj b hb
  obtain ⟨s',h4,h5⟩:=hio b hi
  have:=h.apart s s' b h1 h4
  subst this
  rcases h5 with ⟨h5,_⟩|⟨_,et,e,ys,h5⟩
  ·exact h3 h5
  ·rw [h2] at h5; cases h5
 have hfree:∀b,Ctx.free { P,w0:=w,O:=fun b=>b∈g++i,G:=F,pn,T:=E.tabs,hT } w' own b→qjH w F g i (bs++js) b:=fun b hb=>by
  have hni:b∉i:=fun hi=>by
   obtain ⟨s',h1,_⟩:=hio b hi
   exact hb.2.2 s' h1
  refine ⟨?_,fun hbb=> ?_,hni⟩
  ·rcases hb.1 with hb|hb|hb
   ·exact .inl hb
   ·rcases List.mem_append.1 hb with hb|hb
    ·exact .inr (.inl hb)
    ·exact absurd hb hni
   ·exact .inr (.inr hb)
  ·rcases List.mem_append.1 hbb with hbb|hbb
   ·obtain ⟨s,_,hbs⟩:=k3 b hbb
    exact hb.2.2 s hbs
   ·obtain ⟨s,_,hbs,_⟩:=hj b hbb
    exact hb.2.2 s hbs
 have hmine:∀s b,b∈own s→b∉i→F b∨b∈g∨w.heap.size≤b:=fun s b hb hni=>by
  rcases (h.mine s b hb).1 with hb|hb
  ·rcases List.mem_append.1 hb with hb|hb
   ·exact .inr (.inl hb)
   ·exact absurd hb hni
  ·exact .inr (.inr hb)
 refine ⟨_,bs,js,qqY k1,List.nodup_append.2 ⟨k4 hgn,hjn,fun b hb b' hb' e=>hbj b hb (e ▸ hb')⟩,fun b hb=> ?_,qa7.turn rs (.inr fun b hb _=> ?_) k2,hios _ (fun b s c _ hc hb hnj=> ?_) hfree,h.kept⟩
 ·have hni:b∉i:=(List.mem_append.1 hb).elim (hbi b) (hji b)
  obtain ⟨s,hbs⟩:∃s,b∈own s:=by
   rcases List.mem_append.1 hb with hb|hb
   ·obtain ⟨s,_,hbs⟩:=k3 b hb
    exact ⟨s,hbs⟩
   ·obtain ⟨s,_,hbs,_⟩:=hj b hb
    exact ⟨s,hbs⟩
  obtain ⟨h1,h2⟩:=h.mine s b hbs
  refine ⟨?_,h2⟩
  rcases h1 with h1|h1
  ·rcases List.mem_append.1 h1 with h1|h1
   ·exact .inl h1
   ·exact absurd h1 hni
  ·exact .inr h1
 ·rcases hb with hb|⟨s,hs,hbs,hne⟩
  ·exact hfree b hb
  ·have hni:b∉i:=fun hi=>by
    obtain ⟨s',h1,h2⟩:=hio b hi
    have:=h.apart s s' b hbs h1
    subst this
    rcases h2 with ⟨h2,_⟩|⟨h2,_⟩
    ·exact hne h2
    ·exact hrow s (List.mem_append_right _ hs) h2
   refine ⟨hmine s b hbs hni,fun hbb=> ?_,hni⟩
   rcases List.mem_append.1 hbb with hbb|hbb
   ·obtain ⟨s',hs',hbs'⟩:=k3 b hbb
    have:=h.apart s s' b hbs hbs'
    subst this
    exact hap s hs hs'
   ·obtain ⟨s',_,hbs',hr',_⟩:=hj b hbb
    have:=h.apart s s' b hbs hbs'
    subst this
    exact hrow s (List.mem_append_right _ hs) hr'
 ·obtain ⟨b0,cs,bs',te,b1,b2,b3,b4⟩:=h.box hc
  have hb0:=hb
  rw [b4] at hb
  have hb:b∈bs':=hb
  have hbs:b∈own s:=by rw [b4]; exact List.mem_cons_of_mem _ hb
  have hni:b∉i:=fun hi=>by
   obtain ⟨s',h1,h2⟩:=hio b hi
   have:=h.apart s s' b hbs h1
   subst this
   rcases h2 with ⟨h2,_⟩|⟨_,et,e,ys,h2⟩
   ·rw [b1] at h2
    have:=(qfG h2).1
    subst this
    have hnd:=h.nodup s
    rw [b4] at hnd
    exact (List.nodup_cons.1 hnd).1 hb
   ·rw [hc] at h2
    cases h2
  refine ⟨hmine s b hbs hni,fun hbb=> ?_,hni⟩
  rcases List.mem_append.1 hbb with hbb|hbb
  case inr=>exact hnj hbb
  obtain ⟨s',hs',hbs'⟩:=k3 b hbb
  have:=h.apart s s' b hbs hbs'
  subst this
  obtain ⟨et,e,ys,hys⟩:=k5 s hs'
  rw [hc] at hys
  cases hys
def qoA:List Nat→List Nat→Nat→Option Nat
 |k::l,b::i,j=>if k=j then some b else qoA l i j
 |_,_,_=>none
theorem qr2 {tm:Nat→Value} :(l i:List Nat)→l.map tm=i.map (fun b=>ptr b 0)→(∀k b,qoA l i k=some b→tm k=ptr b 0∧k∈l)∧∀k∈l,∃b,qoA l i k=some b
 |[],_,_=>⟨fun k b h=>(by cases h),fun k h=>(by cases h)⟩
 |k::l,[],h=>by simp at h
 |k::l,b::i,h=>by
  simp only [List.map_cons,List.cons.injEq] at h
  obtain ⟨h1,h2⟩:=qr2 l i h.2
  refine ⟨fun j c hj=> ?_,fun j hj=> ?_⟩
  ·simp only [qoA] at hj
   split at hj
   ·rename_i e
    injection hj with hj
    subst e; subst hj
    exact ⟨h.1,List.mem_cons_self⟩
   ·obtain ⟨q1,q2⟩:=h1 j c hj
    exact ⟨q1,List.mem_cons_of_mem _ q2⟩
  ·simp only [qoA]
   by_cases e:k=j
   ·exact ⟨b,by rw [if_pos e]⟩
   ·rw [if_neg e]
    rcases List.mem_cons.1 hj with hj|hj
    ·exact absurd hj.symm e
    ·exact h2 j hj
theorem qcc.pinned {E:Env} {P:Program} (h:qcc E P) (l rf:List Nat) (nz:Bool):qcc { E with pins:=l,rf:=rf,nzr:=nz } P:=
 ⟨h.ty,fun t e he=>⟨(h.elem t e he).under,(h.elem t e he).info,(h.elem t e he).notInt⟩,h.dflt,h.size,h.arr,h.struct,h.str,h.int,h.bool,h.err,h.opt,h.map,h.off,h.zero,h.eq,h.mixed⟩
theorem qdS {P:Program} {f:Nat} {fn:Func} {c:Code} (hf:P.funcs[f]? =some fn) (hb:fn.body=some c) (hname:(fn.name == "runtime.NumGoroutine")=false) (as:Array Value) (w:World):(callFunc f as).run P w= .ok (.enter f as) w:=by
 have hn:¬fn.name= "runtime.NumGoroutine" :=by simpa using hname
 simp [callFunc,hf,hn,hb]
theorem qwO {P:Program} {E:Env} (hE:qcc E P) (hF:qg1 E P) {N:Nat} {anns:qwX} {f:Nat} {fn:Func} {c:Code} (hf:P.funcs[f]? =some fn) (hb:fn.body=some c) (hname:(fn.name == "runtime.NumGoroutine")=false) (D:qs)
  (hrun:∀x y,D.sem x=some y→runF E N anns fn D.ps D.rs x=some y):D.okT P E.tabs f:=by
 refine ⟨fun as w=>qdS hf hb hname as w,fun w F x y as g i hT hp hpre hn hy=> ?_⟩
 have hT':qd8 E.tabs w fun b=>F b∧¬b∈g++i:=hT.keep fun b hb hlt=>⟨⟨hb,fun hm=>(hpre b hm).1 hb⟩,hlt,rfl⟩
 have he:=hrun x y hy
 unfold runF at he
 rw [hb] at he
 simp only at he
 split at he
 case isFalse=>cases he
 rename_i hcond
 simp only [Bool.and_eq_true] at hcond
 obtain ⟨c1,c2⟩:=hcond
 have hlen:D.ps.length≤fn.ntmps:=of_decide_eq_true c2
 have hpin0:=qdv (fun s=>(as.toArray++Array.replicate (fn.ntmps - as.toArray.size) undef).getD s undef) D.ps 0 hp fun j _=>by
  rw [Nat.zero_add]; exact quE as _ j
 obtain ⟨ib,hib⟩:=hpin0.boxes D.ps 0
 obtain ⟨p1,p2⟩:=qr2 (qcL D.ps 0) ib hib
 obtain ⟨own,hst⟩:=qv8 (pn:=qoA (qcL D.ps 0) ib) (fn:=fn) hT' hlen hp hpre hn
 have fin:∀(σ':St) (a':Act) (w':World) (own':Nat→List Nat),qd0 (qdg D.ps 0) { tmps:=as.toArray++Array.replicate (fn.ntmps - as.toArray.size) undef,defers:=[] } a'→qas { P,w0:=w,O:=fun b=>b∈g++i,G:=F,pn:=qoA (qcL D.ps 0) ib,T:=E.tabs,hT:=hT' } σ' a'.tmps w' own'→qpH E fn D.ps D.rs σ'=some y→
   a'.defers=[]∧∃v,(results fn a'.tmps).run P w'= .ok v w'∧∃v',Ending.returned v= .returned v'∧D.Post w F as g i y v' w':=by
  intro σ' a' w' own' hk hs hfin
  have hpin:qcX (fun s=>a'.tmps.getD s undef) D.ps 0 as i:=hpin0.congr D.ps 0 fun s hs=>hk.2 s hs
  obtain ⟨vs,bs,js,h1,h2,h3,h4,h5,h6⟩:=qtb hE hpre hn hs hpin hfin
  exact ⟨hk.1,qfg vs,h1,qfg vs,rfl,vs,bs,js,rfl,h2,h3,h4,h5,h6⟩
 haveI:Tabbed { E with pins:=qcL D.ps 0,rf:=qf3 anns.frz (some 1000000007),nzr:=D.rs.any (fun r=>match r with| .nz _=>true|_=>false) } { P,w0:=w,O:=fun b=>b∈g++i,G:=F,pn:=qoA (qcL D.ps 0) ib,T:=E.tabs,hT:=hT' } :=⟨rfl⟩
 refine calls_of_wp hf hb (qwH (E:= { E with pins:=qcL D.ps 0,rf:=qf3 anns.frz (some 1000000007),nzr:=D.rs.any (fun r=>match r with| .nz _=>true|_=>false) }) (C:= { P,w0:=w,O:=fun b=>b∈g++i,G:=F,pn:=qoA (qcL D.ps 0) ib,T:=E.tabs,hT:=hT' }) (pin:=qdg D.ps 0) (hE.pinned _ _ _) ⟨fun f C h=>hF f C h,fun k hk=>p2 k hk,fun k b h=>qc3 D.ps 0 k (p1 k b h).2⟩ c c1 he (fun k b h=>(p1 k b h).1) hst ⟨fun σ' a' w' own' hfr hk hs hfin=>fin σ' a' w' own' hk hs hfin,fun i σ' a' w' own' hfr hk hs hfin=>(by cases hfin),fun σ' a' w' own' hfr hk hs hfin=>fin σ' a' w' own' hk hs hfin⟩)
theorem qlV {P:Program} {T:qlC} {f:Nat} {fn:Func} (hf:P.funcs[f]? =some fn) (hb:fn.body.isSome=true) (hname:(fn.name == "runtime.NumGoroutine")=false) {ps:List PM} {rs:List RM} :qs.okT P T f ⟨ps,rs,fun _=>none⟩:=by
 obtain ⟨c,hc⟩:=Option.isSome_iff_exists.1 hb
 exact ⟨fun as w=>qdS hf hc hname as w,fun w F x y as g i _ _ _ _ hy=>by cases hy⟩
theorem keeps {P:Program} {E:Env} (hE:qcc E P) (hF:qg1 E P) {N:Nat} {anns:qwX} {f:Nat} {fn:Func} (hf:P.funcs[f]? =some fn) (hb:fn.body.isSome=true) (hname:(fn.name == "runtime.NumGoroutine")=false) {ps:List PM} {rs:List RM} {sem:PMs.den ps→Option (RMs.den rs×PMs.ioDen ps)}
  (hrun:∀x,runF E N anns fn ps rs x=sem x):qs.okT P E.tabs f ⟨ps,rs,sem⟩:=by
 obtain ⟨c,hc⟩:=Option.isSome_iff_exists.1 hb
 exact qwO hE hF (N:=N) (anns:=anns) hf hc hname ⟨ps,rs,sem⟩ fun x y h=>(hrun x).trans h
end Go.Vi
namespace Go.Vi
noncomputable section
structure TI where
 t:Nat
 ty:Ty
 et:Nat
 fs:List (Nat×Nat)
 z:qcY
 bytes:Nat
 eq:Bool
def qjY:List TI→Nat→Option TI
 |[],_=>none
 |x::r,t=>match decEq x.t t with
  |isTrue _=>some x
  |isFalse _=>qjY r t
def qcY.zero:qcY→BC
 | .val t=> .val t t.dflt
 | .own et e=> .own et e []
 | .pair a b=> .pair a.zero b.zero
 | .hole n=> .hole n
def qw0 {α:Type} :List (Nat×α)→Nat→Option α
 |[],_=>none
 |(a,x)::r,k=>match decEq a k with
  |isTrue _=>some x
  |isFalse _=>qw0 r k
def Env.tab (T:List TI) (fns:List (Nat×qs)):Env where
 ty t:=(qjY T t).map (·.ty)
 etid t:=((qjY T t).map (·.et)).getD 0
 off t f:=(qjY T t).bind fun x=>(x.fs[f]?).map (·.1)
 fty t f:=(((qjY T t).bind fun x=>(x.fs[f]?).map (·.2))).getD 0
 zero t:=(qjY T t).map (·.z.zero)
 bytes t:=((qjY T t).map (·.bytes)).getD 0
 eqok t:=((qjY T t).map (·.eq)).getD false
 fn:=qw0 fns
 pins:=[]
 ownz:=false
 tabs:=fun _=>none
 rf:=[]
def Env.tabG (G:qlC) (T:List TI) (fns:List (Nat×qs)):Env:= { Env.tab T fns with tabs:=G }
def Env.tabGO (G:qlC) (T:List TI) (fns:List (Nat×qs)):Env:= { Env.tabG G T fns with ownz:=true }
end
end Go.Vi
namespace Go.Vi
def Ty.zeroOk:Ty→List Value→Bool
 | .int k,cs=>match cs with
  |[.int k' n]=>decide (k'=k)&&decide (n=0)
  |_=>false
 | .bool,cs=>match cs with
  |[.bool b]=> !b
  |_=>false
 | .str,cs=>match cs with
  |[.string s]=>s.data.toList.isEmpty
  |_=>false
 | .unit,cs=>cs.isEmpty
 | .err,cs=>match cs with
  |[.nilIface]=>true
  |_=>false
 | .opt _,cs=>match cs with
  |[.pointer none]=>true
  |_=>false
 | .map _ _,_=>false
 | .pair a b,cs=>a.zeroOk (cs.take a.size)&&b.zeroOk (cs.drop a.size)
 | .slice _,cs=>match cs with
  |[.slice none 0 0]=>true
  |_=>false
 | .arr n e,cs=>decide (cs.length=n * e.size)&&(List.range n).all fun i=>e.zeroOk ((cs.drop (i * e.size)).take e.size)
def qcY.zeroOk:qcY→List Value→Bool
 | .val t,cs=>t.zeroOk cs
 | .own _ _,cs=>match cs with
  |[.slice none 0 0]=>true
  |_=>false
 | .pair a b,cs=>a.zeroOk (cs.take a.zero.size)&&b.zeroOk (cs.drop a.zero.size)
 | .hole n,cs=>decide (cs.length=n)
def qtT (P:Program):List Field→Ty→Nat→Bool
 |[],.unit,_=>true
 |f::fs,.pair a b,off=>decide (f.offset=off)&&(match P.info? f.type with
  |some i=>decide (i.size=a.size)
  |none=>false)&&qtT P fs b (off+a.size)
 |_,_,_=>false
def fsOk (P:Program):List Field→List (Nat×Nat)→Bool
 |_,[]=>true
 |f::fs,(off,ft)::r=>decide (f.offset=off)&&decide (f.type=ft)&&(match P.info? ft with
  |some i=>decide (i.size≠0)
  |none=>false)&&fsOk P fs r
 |[],_::_=>false
def qrq (P:Program) (T:List TI) (et:Nat) (e:Ty):Bool:=
 match P.info? et with
 |some i=>decide (i.size=e.size)&&(match i.zero with
  |some z=>e.zeroOk z.cells.toList&&decide (z.cells.size=e.size)&&(match z with
   | .agg _=>e.agg
   |_=>true)
  |none=>false)&&decide (i.bytes=((qjY T et).map (·.bytes)).getD 0)
 |none=>false
def qfd (P:Program) (T:List TI) (x:TI) (d:TypeDesc):Ty→Bool
 | .int k=>match d with
  | .int k'=>decide (k'=k)
  |_=>false
 | .bool=>match d with
  | .bool=>true
  |_=>false
 | .str=>match d with
  | .string=>true
  |_=>false
 | .slice e=>match d with
  | .slice et=>decide (et=x.et)&&qrq P T et e
  |_=>false
 | .arr n e=>match d with
  | .array m et=>decide (m=n)&&decide (et=x.et)&&(match P.info? et with
   |some i=>decide (i.size=e.size)
   |none=>false)
  |_=>false
 | .err=>match d with
  | .interface _=>true
  |_=>false
 | .opt _=>match d with
  | .pointer _=>true
  |_=>false
 | .map k v=>match d with
  | .map kn vn=>decide (vn=x.et)&&(match P.underlying kn with
   |some kd=>qk3 k kd
   |none=>false)&&(match P.info? vn with
   |some i=>(match i.zero with
    |some z=>v.zeroOk z.cells.toList&&(match z with
     | .agg _=>v.agg
     |_=> !v.agg)
    |none=>false)
   |none=>false)
  |_=>false
 | .unit=>match d with
  | .struct fs=>qtT P fs.toList .unit 0&&fsOk P fs.toList x.fs
  |_=>false
 | .pair a b=>match d with
  | .struct fs=>qtT P fs.toList (.pair a b) 0&&fsOk P fs.toList x.fs
  |_=>false
def tiOk (P:Program) (T:List TI) (x:TI):Bool:=
 match P.info? x.t,P.underlying x.t with
 |some i,some d=>decide (i.size=x.ty.size)&&(match i.zero with
  |some z=>(if x.ty.struct then x.ty.zeroOk z.cells.toList else true)&&x.z.zeroOk z.cells.toList
  |none=>false)&&qfd P T x d x.ty&&(match d with
  | .struct _=>true
  |_=>x.fs.isEmpty)&&(!x.eq||qw7 P x.ty x.t)
 |_,_=>false
def qtI (P:Program) (T:List TI):Bool:=P.follows .mixedOrders&&T.all (tiOk P T)
theorem qnZ: {T:List TI} → {t:Nat} → {x:TI} →qjY T t=some x→x∈T∧x.t=t
 |y::r,t,x,h=>by
  simp only [qjY] at h
  split at h
  ·injection h with h
   subst h
   exact ⟨List.mem_cons_self,by assumption⟩
  ·obtain ⟨h1,h2⟩:=qnZ h
   exact ⟨List.mem_cons_of_mem _ h1,h2⟩
theorem Ty.zeroOk_rep {w:World} {F:Nat→Prop} :(t:Ty)→ {cs:List Value} →t.zeroOk cs=true→Rep w F t t.dflt cs
 | .int k,cs,h=>by
  simp only [Ty.zeroOk] at h
  split at h
  ·simp only [Bool.and_eq_true,decide_eq_true_eq] at h
   obtain ⟨rfl,rfl⟩:=h
   refine ⟨rfl,?_⟩
   rename_i k
   cases k <;> exact ⟨by decide,by decide⟩
  ·cases h
 | .bool,cs,h=>by
  simp only [Ty.zeroOk] at h
  split at h
  ·simp at h; subst h; rfl
  ·cases h
 | .err,cs,h=>by
  simp only [Ty.zeroOk] at h
  split at h
  ·exact ⟨_,rfl,.inl ⟨rfl,rfl⟩⟩
  ·cases h
 | .opt _,cs,h=>by
  simp only [Ty.zeroOk] at h
  split at h
  ·exact ⟨_,rfl,.inl ⟨rfl,rfl⟩⟩
  ·cases h
 | .map _ _,cs,h=>by cases h
 | .str,cs,h=>by
  simp only [Ty.zeroOk] at h
  split at h
  ·rename_i s
   refine ⟨?_,by simp [Ty.dflt]⟩
   have h1:s.data.toList=[]:=by simpa using h
   have h2:s.data= #[]:=by
    apply Array.toList_inj.1
    rw [h1]
   cases s
   simp only at h2
   subst h2
   rfl
  ·cases h
 | .unit,cs,h=>by
  have:cs=[]:=by simpa [Ty.zeroOk] using h
  exact this
 | .pair a b,cs,h=>by
  simp only [Ty.zeroOk,Bool.and_eq_true] at h
  exact ⟨_,_,(List.take_append_drop a.size cs).symm,a.zeroOk_rep h.1,b.zeroOk_rep h.2⟩
 | .slice e,cs,h=>by
  simp only [Ty.zeroOk] at h
  split at h
  ·exact ⟨_,rfl,.inl ⟨rfl,rfl⟩⟩
  ·cases h
 | .arr n e,cs,h=>by
  simp only [Ty.zeroOk,Bool.and_eq_true,decide_eq_true_eq,List.all_eq_true,List.mem_range] at h
  obtain ⟨h1,h2⟩:=h
  refine ⟨by simp [Ty.dflt],(List.range n).map (fun i=>(cs.drop (i * e.size)).take e.size),by simp,?_,fun i x c hi hc=> ?_⟩
  ·clear h2
   induction n generalizing cs with
   |zero=>simp at h1; subst h1; rfl
   |succ n ih=>
    have:=ih (cs:=cs.drop e.size) (by rw [List.length_drop,h1,Nat.add_mul]; omega)
    rw [List.range_succ_eq_map,List.map_cons,List.flatten_cons,List.map_map]
    rw [Nat.zero_mul,List.drop_zero]
    have e2:((fun i=>List.take e.size (List.drop (i * e.size) cs)) ∘ Nat.succ)=fun i=>List.take e.size (List.drop (i * e.size) (cs.drop e.size)):=by
     funext i
     simp only [Function.comp,List.drop_drop]
     rw [Nat.succ_mul,Nat.add_comm]
    rw [e2,←this,List.take_append_drop]
  ·have hx:x=e.dflt:=by
    simp only [Ty.dflt] at hi
    rw [List.getElem?_replicate] at hi
    split at hi
    ·injection hi with hi; exact hi.symm
    ·cases hi
   rw [List.getElem?_map] at hc
   by_cases hin:i<n
   ·rw [List.getElem?_range hin] at hc
    simp only [Option.map_some,Option.some.injEq] at hc
    rw [hx,←hc]
    exact e.zeroOk_rep (h2 i hin)
   ·rw [List.getElem?_eq_none (by simpa using hin)] at hc
    cases hc
theorem qcY.zeroOk_rep {w:World} {F:Nat→Prop} :(b:qcY)→ {cs:List Value} →b.zeroOk cs=true→qa5 w F b.zero cs []
 | .val t,cs,h=>⟨rfl,t.zeroOk_rep h⟩
 | .own et e,cs,h=>by
  simp only [qcY.zeroOk] at h
  split at h
  ·exact ⟨_,rfl,[],World.ownsRow_nil _ _ _ _,rfl,fun i x hi=>by simp at hi⟩
  ·cases h
 | .pair a b,cs,h=>by
  simp only [qcY.zeroOk,Bool.and_eq_true] at h
  exact ⟨_,_,[],[],(List.take_append_drop a.zero.size cs).symm,rfl,a.zeroOk_rep h.1,b.zeroOk_rep h.2⟩
 | .hole n,cs,h=>⟨rfl,by simpa [qcY.zeroOk] using h⟩
theorem qfJ {P:Program} {w:World} {t:Nat} {i:TypeInfo} (h:P.info? t=some i):(sizeOf t).run P w= .ok i.size w:=by
 simp [sizeOf,typeInfo,h]
theorem qpi {P:Program} : {fs:List Field} → {T:Ty} → {off:Nat} →qtT P fs T off=true→Lay P fs T off
 |[],.unit,_,_=>trivial
 |f::fs,.pair a b,off,h=>by
  simp only [qtT,Bool.and_eq_true,decide_eq_true_eq] at h
  obtain ⟨⟨h1,h2⟩,h3⟩:=h
  split at h2
  ·rename_i i hi
   simp only [decide_eq_true_eq] at h2
   exact ⟨h1,fun w=>by rw [qfJ hi,h2],qpi h3⟩
  ·cases h2
theorem qtR {P:Program} : {fs:List Field} → {l:List (Nat×Nat)} → {f:Nat} → {q:Nat×Nat} →fsOk P fs l=true→l[f]? =some q→∃fl,fs[f]? =some fl∧fl.offset=q.1∧fl.type=q.2∧∃i,P.info? fl.type=some i∧i.size≠0
 |fl::fs,(off,ft)::r,f,q,h,hq=>by
  simp only [fsOk,Bool.and_eq_true,decide_eq_true_eq] at h
  obtain ⟨⟨⟨h1,h2⟩,h3⟩,h4⟩:=h
  cases f with
  |zero=>
   simp at hq
   subst hq
   refine ⟨fl,rfl,h1,h2,?_⟩
   subst h2
   split at h3
   ·rename_i i hi
    exact ⟨i,hi,of_decide_eq_true h3⟩
   ·cases h3
  |succ f=>
   simp only [List.getElem?_cons_succ] at hq⊢
   exact qtR h4 hq
 |_,[],f,q,_,hq=>by simp at hq
 |[],_::_,_,_,h,_=>by cases h
theorem qpy {P:Program} {T:List TI} (h:qtI P T=true) (fns:List (Nat×qs)):qcc (Env.tab T fns) P:=by
 simp only [qtI,Bool.and_eq_true] at h
 have one:∀ {t:Nat} {x:TI},qjY T t=some x→x.t=t∧∃i d z,P.info? t=some i∧P.underlying t=some d∧i.zero=some z∧i.size=x.ty.size∧(x.ty.struct=true→x.ty.zeroOk z.cells.toList=true)∧x.z.zeroOk z.cells.toList=true∧qfd P T x d x.ty=true∧((∃fs,d= .struct fs)∨x.fs=[])∧(x.eq=true→EqB P t x.ty):=by
  intro t x hx
  obtain ⟨h1,h2⟩:=qnZ hx
  have:=List.all_eq_true.1 h.2 x h1
  unfold tiOk at this
  split at this
  ·rename_i i d hi hd
   simp only [Bool.and_eq_true,decide_eq_true_eq] at this
   obtain ⟨⟨⟨⟨g1,g2⟩,g3⟩,g4⟩,g5⟩:=this
   split at g2
   ·rename_i z hz
    simp only [Bool.and_eq_true] at g2
    refine ⟨h2,i,d,z,h2 ▸ hi,h2 ▸ hd,hz,g1,fun hs=> ?_,g2.2,g3,?_⟩
    ·have:=g2.1
     rw [if_pos hs] at this
     exact this
    ·refine ⟨?_,fun he=> ?_⟩
     ·split at g4
      ·exact .inl ⟨_,rfl⟩
      ·exact .inr (by simpa using g4)
     ·rw [he] at g5
      exact h2 ▸ qvc g5
   ·cases g2
  ·cases this
 have ent:∀ {t:Nat} {u:Ty},(Env.tab T fns).ty t=some u→∃x,qjY T t=some x∧x.ty=u:=by
  intro t u hu
  simp only [Env.tab,Option.map_eq_some_iff] at hu
  exact hu
 have etid:∀ {t:Nat} {x:TI},qjY T t=some x→(Env.tab T fns).etid t=x.et:=by
  intro t x hx
  simp [Env.tab,hx]
 refine ⟨?_,?_,?_,?_,?_,?_,?_,?_,?_,?_,?_,?_,?_,?_,?_,h.1⟩
 ·intro t u hu
  obtain ⟨x,hx,rfl⟩:=ent hu
  obtain ⟨_,i,d,z,h1,h2,h3,h4,h5,h6,h7,h8,h9⟩:=one hx
  refine ⟨⟨i,h1,h4⟩,d,h2,?_⟩
  cases hty:x.ty <;> rw [hty] at h7 <;> simp only [qfd] at h7 <;> split at h7 <;> first|rfl|cases h7
 ·intro t e hu
  obtain ⟨x,hx,hty⟩:=ent hu
  obtain ⟨_,i,d,z,h1,h2,h3,h4,h5,h6,h7,h8,h9⟩:=one hx
  rw [hty] at h7
  simp only [qfd] at h7
  split at h7
  ·rename_i et
   simp only [Bool.and_eq_true,decide_eq_true_eq] at h7
   obtain ⟨rfl,h7⟩:=h7
   unfold qrq at h7
   split at h7
   ·rename_i ie hie
    simp only [Bool.and_eq_true,decide_eq_true_eq] at h7
    obtain ⟨⟨k1,k2⟩,k3⟩:=h7
    split at k2
    ·rename_i ze hze
     simp only [Bool.and_eq_true,decide_eq_true_eq] at k2
     refine ⟨by rw [etid hx]; exact h2,⟨ie,ze,by rw [etid hx]; exact hie,k1,hze,k2.1.2,?_⟩,fun k hk=>by rw [h2] at hk; cases hk⟩
     rw [etid hx]
     exact k3
    ·cases k2
   ·cases h7
  ·cases h7
 ·intro t e hu
  obtain ⟨x,hx,hty⟩:=ent hu
  obtain ⟨_,i,d,z,h1,h2,h3,h4,h5,h6,h7,h8,h9⟩:=one hx
  rw [hty] at h7
  simp only [qfd] at h7
  split at h7
  ·rename_i et
   simp only [Bool.and_eq_true,decide_eq_true_eq] at h7
   obtain ⟨rfl,h7⟩:=h7
   unfold qrq at h7
   split at h7
   ·rename_i ie hie
    simp only [Bool.and_eq_true,decide_eq_true_eq] at h7
    obtain ⟨⟨k1,k2⟩,k3⟩:=h7
    split at k2
    ·rename_i ze hze
     simp only [Bool.and_eq_true,decide_eq_true_eq] at k2
     refine ⟨ie,ze,by rw [etid hx]; exact hie,hze,fun ha cs hcs=> ?_,fun w F=>e.zeroOk_rep k2.1.1⟩
     have:=k2.2
     rw [hcs] at this
     simp only at this
     rw [ha] at this
     cases this
    ·cases k2
   ·cases h7
  ·cases h7
 ·intro t e hu
  rcases hu with hu|⟨n,hu⟩
  ·obtain ⟨x,hx,hty⟩:=ent hu
   obtain ⟨_,i,d,z,h1,h2,h3,h4,h5,h6,h7,h8,h9⟩:=one hx
   rw [hty] at h7
   simp only [qfd] at h7
   split at h7
   ·rename_i et
    simp only [Bool.and_eq_true,decide_eq_true_eq] at h7
    obtain ⟨rfl,h7⟩:=h7
    unfold qrq at h7
    split at h7
    ·rename_i ie hie
     simp only [Bool.and_eq_true,decide_eq_true_eq] at h7
     funext w
     rw [etid hx,qfJ hie,h7.1.1]
    ·cases h7
   ·cases h7
  ·obtain ⟨x,hx,hty⟩:=ent hu
   obtain ⟨_,i,d,z,h1,h2,h3,h4,h5,h6,h7,h8,h9⟩:=one hx
   rw [hty] at h7
   simp only [qfd] at h7
   split at h7
   ·rename_i m et
    simp only [Bool.and_eq_true,decide_eq_true_eq] at h7
    obtain ⟨⟨rfl,rfl⟩,h7⟩:=h7
    split at h7
    ·rename_i ie hie
     simp only [decide_eq_true_eq] at h7
     funext w
     rw [etid hx,qfJ hie,h7]
    ·cases h7
   ·cases h7
 ·intro t n e hu
  obtain ⟨x,hx,hty⟩:=ent hu
  obtain ⟨_,i,d,z,h1,h2,h3,h4,h5,h6,h7,h8,h9⟩:=one hx
  rw [hty] at h7
  simp only [qfd] at h7
  split at h7
  ·rename_i m et
   simp only [Bool.and_eq_true,decide_eq_true_eq] at h7
   obtain ⟨⟨rfl,rfl⟩,h7⟩:=h7
   rw [etid hx]
   exact h2
  ·cases h7
 ·intro t u hu hs
  obtain ⟨x,hx,hty⟩:=ent hu
  obtain ⟨_,i,d,z,h1,h2,h3,h4,h5,h6,h7,h8,h9⟩:=one hx
  rw [hty] at h7 h5
  have h5:=h5 hs
  cases u <;> simp only [Ty.struct] at hs <;> first|cases hs|skip
  all_goals
   simp only [qfd] at h7
   split at h7
   ·rename_i fs
    simp only [Bool.and_eq_true] at h7
    exact ⟨fs,z,i,h2,h1,h3,fun w F=>Ty.zeroOk_rep _ h5,qpi h7.1⟩
   ·cases h7
 ·intro t hu
  obtain ⟨x,hx,hty⟩:=ent hu
  obtain ⟨_,i,d,z,h1,h2,h3,h4,h5,h6,h7,h8,h9⟩:=one hx
  rw [hty] at h7
  simp only [qfd] at h7
  split at h7
  ·exact h2
  ·cases h7
 ·intro t k hu
  obtain ⟨x,hx,hty⟩:=ent hu
  obtain ⟨_,i,d,z,h1,h2,h3,h4,h5,h6,h7,h8,h9⟩:=one hx
  rw [hty] at h7
  simp only [qfd] at h7
  split at h7
  ·simp only [decide_eq_true_eq] at h7
   subst h7
   exact h2
  ·cases h7
 ·intro t hu
  obtain ⟨x,hx,hty⟩:=ent hu
  obtain ⟨_,i,d,z,h1,h2,h3,h4,h5,h6,h7,h8,h9⟩:=one hx
  rw [hty] at h7
  simp only [qfd] at h7
  split at h7
  ·exact h2
  ·cases h7
 ·intro t hu
  obtain ⟨x,hx,hty⟩:=ent hu
  obtain ⟨_,i,d,z,h1,h2,h3,h4,h5,h6,h7,h8,h9⟩:=one hx
  rw [hty] at h7
  simp only [qfd] at h7
  split at h7
  ·exact ⟨_,h2⟩
  ·cases h7
 ·intro t e hu
  obtain ⟨x,hx,hty⟩:=ent hu
  obtain ⟨_,i,d,z,h1,h2,h3,h4,h5,h6,h7,h8,h9⟩:=one hx
  rw [hty] at h7
  simp only [qfd] at h7
  split at h7
  ·exact ⟨_,h2⟩
  ·cases h7
 ·intro t k v hu
  obtain ⟨x,hx,hty⟩:=ent hu
  obtain ⟨_,i,d,z,h1,h2,h3,h4,h5,h6,h7,h8,h9⟩:=one hx
  rw [hty] at h7
  simp only [qfd] at h7
  split at h7
  ·rename_i kn vn
   simp only [Bool.and_eq_true] at h7
   obtain ⟨⟨k1,k2⟩,k3⟩:=h7
   split at k2
   case h_2=>cases k2
   rename_i kd hkd
   split at k3
   case h_2=>cases k3
   rename_i iv hiv
   split at k3
   case h_2=>cases k3
   rename_i zv hzv
   simp only [Bool.and_eq_true] at k3
   refine ⟨kn,vn,kd,iv,zv,h2,hkd,k2,hiv,hzv,fun w F=>⟨v.zeroOk_rep k3.1,fun ha=> ?_,fun ha cs he=> ?_⟩⟩
   ·have k4:=k3.2
    split at k4
    ·exact ⟨_,rfl⟩
    ·rw [ha] at k4
     cases k4
   ·have k4:=k3.2
    rw [he] at k4
    simp only at k4
    rw [ha] at k4
    cases k4
  ·cases h7
 ·intro t f n ho
  simp only [Env.tab,Option.bind_eq_some_iff,Option.map_eq_some_iff] at ho
  obtain ⟨x,hx,q,hq,rfl⟩:=ho
  obtain ⟨_,i,d,z,h1,h2,h3,h4,h5,h6,h7,h8,h9⟩:=one hx
  rcases h8 with ⟨fs,rfl⟩|h8
  ·have hfs:fsOk P fs.toList x.fs=true:=by
    cases hty:x.ty <;> rw [hty] at h7 <;> simp only [qfd] at h7 <;> first|(simp only [Bool.and_eq_true] at h7; exact h7.2)|cases h7
   obtain ⟨fl,g1,g2,g3,g4⟩:=qtR hfs hq
   refine ⟨fs,fl,h2,by simpa using g1,g2,?_,g4⟩
   simp [Env.tab,hx,hq,g3]
  ·rw [h8] at hq
   simp at hq
 ·intro t c hc
  simp only [Env.tab,Option.map_eq_some_iff] at hc
  obtain ⟨x,hx,rfl⟩:=hc
  obtain ⟨_,i,d,z,h1,h2,h3,h4,h5,h6,h7,h8,h9⟩:=one hx
  exact ⟨i,z,h1,h3,fun w F=>x.z.zeroOk_rep h6⟩
 ·intro t u he hu
  obtain ⟨x,hx,rfl⟩:=ent hu
  obtain ⟨_,i,d,z,h1,h2,h3,h4,h5,h6,h7,h8,h9⟩:=one hx
  exact h9 (by simpa [Env.tab,hx] using he)
theorem qsL {P:Program} {T:List TI} (G:qlC) (h:qtI P T=true) (fns:List (Nat×qs)):qcc (Env.tabG G T fns) P:=
 let e:=qpy h fns
 ⟨e.ty,fun t x he=>⟨(e.elem t x he).under,(e.elem t x he).info,(e.elem t x he).notInt⟩,e.dflt,e.size,e.arr,e.struct,e.str,e.int,e.bool,e.err,e.opt,e.map,e.off,e.zero,e.eq,e.mixed⟩
theorem qsH {P:Program} {T:List TI} {G:qlC} :qg1 (Env.tabG G T []) P:=fun f C h=>by cases h
theorem qrd {P:Program} {T:List TI} {G:qlC} {fns:List (Nat×qs)} {f:Nat} {C:qs} (h:C.okT P G f) (hF:qg1 (Env.tabG G T fns) P):qg1 (Env.tabG G T ((f,C)::fns)) P:=fun f' C' h'=>by
 simp only [Env.tabG,Env.tab,qw0] at h'
 split at h'
 ·rename_i e _
  injection h' with h'
  subst h'
  subst e
  exact h
 ·exact hF f' C' h'
theorem qwL {P:Program} {T:List TI} {G:qlC} {fns:List (Nat×qs)} (h:qg1 (Env.tabG G T fns) P):qg1 (Env.tabGO G T fns) P:=h
theorem qq1 {P:Program} {T:List TI} (G:qlC) (h:qtI P T=true) (fns:List (Nat×qs)):qcc (Env.tabGO G T fns) P:=
 have h:=qpy h fns
 ⟨h.ty,fun t e he=>⟨(h.elem t e he).under,(h.elem t e he).info,(h.elem t e he).notInt⟩,h.dflt,h.size,h.arr,h.struct,h.str,h.int,h.bool,h.err,h.opt,h.map,h.off,h.zero,h.eq,h.mixed⟩
end Go.Vi
