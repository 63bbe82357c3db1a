/- The abstract interpreter: operations under a guard, and one after the other. -/
import Derived.Test.YtfcdfdnlgfebmaaGreatDoorViOpD
set_option linter.unusedVariables false
set_option linter.unusedSimpArgs false
set_option linter.unnecessarySimpa false
set_option linter.unusedSectionVars false
namespace Go.Vi
open Go.RowKit
section
variable {C:Ctx} {E:Env} {σ:St} {tm:Array Value} {a:Act} {w w':World} {own:Nat→List Nat} {o:Oper} {p:qhl} [Tabbed E C]
theorem qhz (h:qag C σ tm w own):∀(n s:Nat) (want:Bool) {p:qhl},(qdI n s want).run (qt σ)=some p→
  (∃b r,p=(s,(qt σ s).1,want,b)::r)∧(tm.getD s undef= .bool want→(∀q∈p,(sit C σ tm w own).ver q.1=q.2.1∧(sit C σ tm w own).tm q.1= .bool q.2.2.1∧q.2.2.2=q.2.2.1)∧qml p=true)
 |0,_,_,_,he=>by cases he
 |n+1,s,want,p,he=>by
  simp only [qdI,Q.run_get] at he
  have hat:=h.at_ s
  split at he
  ·rename_i b hb
   have:=Q.ret_some he
   subst this
   rw [hb] at hat
   have hv:tm.getD s undef= .bool b:=qaq.bool hat.2
   refine ⟨⟨b,[],rfl⟩,fun ht=> ?_⟩
   rw [hv] at ht
   injection ht with ht
   subst ht
   refine ⟨fun q hq=> ?_,by cases b <;> rfl⟩
   simp at hq
   subst hq
   exact ⟨rfl,hv,rfl⟩
  ·rename_i s2 v2 w2 b hb
   obtain ⟨r,h1,he⟩:=Q.bind_some he
   obtain ⟨⟨b3,r3,hr⟩,hp⟩:=qhz h n s2 w2 h1
   rw [hr] at he
   simp only at he
   split at he
   ·rename_i hv
    have:=Q.ret_some he
    subst this
    rw [hb] at hat
    obtain ⟨g1,g2⟩:=hat.2 hv
    refine ⟨⟨b,_,rfl⟩,fun ht=> ?_⟩
    have hw2:tm.getD s2 undef= .bool w2:=by
     by_cases hc:tm.getD s2 undef= .bool w2
     ·exact hc
     ·have:=g2 hc
      rw [ht] at this
      cases this
    obtain ⟨k1,k2⟩:=hp hw2
    have hv2:tm.getD s undef= .bool b:=qaq.bool (g1 hw2).2
    rw [hv2] at ht
    injection ht with ht
    subst ht
    rw [hr] at k1 k2
    refine ⟨fun q hq=> ?_,?_⟩
    ·rcases List.mem_cons.1 hq with rfl|hq
     ·exact ⟨rfl,hv2,rfl⟩
     ·exact k1 q hq
    ·have e:lit b b=true:=by cases b <;> rfl
     simp only [qml,e,Bool.true_and]
     simpa [qml] using k2
   ·cases he
  ·cases he
theorem qir (h:qag C σ tm w own):∀(n s:Nat) (want:Bool) {p:qhl},(qdI n s want).run (qt σ)=some p→qml p=true→tm.getD s undef= .bool want
 |0,_,_,_,he,_=>by cases he
 |n+1,s,want,p,he,hc=>by
  simp only [qdI,Q.run_get] at he
  have hat:=h.at_ s
  split at he
  ·rename_i b hb
   have:=Q.ret_some he
   subst this
   rw [hb] at hat
   have hv:tm.getD s undef= .bool b:=qaq.bool hat.2
   rw [hv]
   cases want <;> cases b <;> simp_all [qml,lit]
  ·rename_i s2 v2 w2 b hb
   obtain ⟨r,h1,he⟩:=Q.bind_some he
   obtain ⟨⟨b3,r3,hr⟩,hp⟩:=qhz h n s2 w2 h1
   have ih:=qir h n s2 w2 h1
   rw [hr] at he ih
   simp only at he
   split at he
   ·rename_i hv
    have:=Q.ret_some he
    subst this
    rw [hb] at hat
    have hc2:lit want b=true∧qml ((s2,(qt σ s2).1,w2,b3)::r3)=true:=by simpa [qml] using hc
    have hv2:tm.getD s undef= .bool b:=qaq.bool ((hat.2 hv).1 (ih hc2.2)).2
    rw [hv2]
    cases want <;> cases b <;> simp_all [lit]
   ·cases he
  ·cases he
theorem qhQ {σ':St} :∀(n s:Nat) (want:Bool) {p:qhl},(qdI n s want).run (qt σ)=some p→(∀q∈p,qt σ' q.1=qt σ q.1)→(qdI n s want).run (qt σ')=some p
 |0,_,_,_,he,_=>by cases he
 |n+1,s,want,p,he,hq=>by
  simp only [qdI,Q.run_get] at he⊢
  split at he
  ·rename_i b hb
   have:=Q.ret_some he
   subst this
   have e:=hq (s,(qt σ s).1,want,b) (by simp)
   simp only at e
   rw [e,hb]
   rfl
  ·rename_i s2 v2 w2 b hb
   obtain ⟨r,h1,he⟩:=Q.bind_some he
   split at he
   ·rename_i s3 v3 w3 b3 r3
    split at he
    ·rename_i hv
     have:=Q.ret_some he
     subst this
     have e:=hq (s,(qt σ s).1,want,b) (by simp)
     simp only at e
     have ih:=qhQ n s2 w2 h1 (fun q hm=>hq q (List.mem_cons_of_mem _ hm))
     rw [e,hb]
     simp only [Q.run_bind,ih,Option.bind_some,if_pos hv]
     rfl
    ·cases he
   ·cases he
  ·cases he
theorem qoo:∀(ms:List (Nat×Nat)) {u:Unit},(qqc ms).run (qt σ)=some u→∀m∈ms,m.2≤(qt σ m.1).1
 |[],_,_,m,hm=>by cases hm
 |m::r,u,he,m',hm=>by
  simp only [qqc,Q.run_get] at he
  split at he
  ·rename_i hle
   rcases List.mem_cons.1 hm with rfl|hm
   ·exact hle
   ·exact qoo r he m' hm
  ·cases he
theorem qoU (s:Nat):∀(us:List U) (σ:St),s<σ.length→(qt (qr σ us) s).1=(qt σ s).1+qkf s us
 |[],_,_=>rfl
 |u::us,σ,hs=>by
  have ih:=qoU s us (qR σ u) (by rw [qak]; exact hs)
  show (qt (qr (qR σ u) us) s).1=_
  rw [ih]
  by_cases e:u.s=s
  ·subst e
   rw [qM σ u hs]
   cases hb:u.bump
   ·simp [qkf,hb]
   ·simp [qkf,hb]; omega
  ·rw [qv σ u (fun h=>e h.symm)]
   have e2:(u.s == s)=false:=by simpa using e
   simp [qkf,e2]
theorem qkI:(us:List U)→ {σ:St} → {s:Nat} →s∉us.map (·.s)→qt (qr σ us) s=qt σ s
 |[],_,_,_=>rfl
 |u::us,σ,s,h=>by
  simp only [List.map_cons,List.mem_cons,not_or] at h
  exact (qkI us (σ:=qR σ u) h.2).trans (qv _ _ h.1)
def isPb:AV→Prop
 | .pbox _ _ _=>True
 |_=>False
theorem qd5 {us:List U} {d:List Nat} {tm':Array Value} {w':World} {own':Nat→List Nat} (h:qag C σ tm w own) (hk:∀s,s∉d→tm'.getD s undef=tm.getD s undef):
  ∀(l:List Nat) {τ:St} {us':List U},τ.length=σ.length→qag C τ tm' w' own'→(∀x,qt τ x=qt (qr σ us) x∨(isPb (qt σ x).2∧isPb (qt τ x).2))→
  (qfJ us d l).run (qt σ)=some us'→(∀u∈us',u.s<σ.length)→qag C (qr τ us') tm' w' own'
 |[],τ,us',hl,hst,hi,he,hd=>by
  have:=Q.ret_some he
  subst this
  exact hst
 |t::r,τ,us',hl,hst,hi,he,hd=>by
  simp only [qfJ,Q.run_get] at he
  split at he
  case h_2=>exact qd5 h hk r hl hst hi he hd
  rename_i s v off ht
  split at he
  case isFalse=>exact qd5 h hk r hl hst hi he hd
  rename_i hcond
  simp only [Bool.and_eq_true,Bool.not_eq_true',bne_iff_ne,ne_eq] at hcond
  obtain ⟨⟨⟨⟨c1,c2⟩,c3⟩,c4⟩,c5⟩:=hcond
  rw [Q.run_get] at he
  split at he
  case h_2=>exact qd5 h hk r hl hst hi he hd
  rename_i cc hs
  split at he
  case isFalse=>exact qd5 h hk r hl hst hi he hd
  rename_i hv
  obtain ⟨l',h1,he⟩:=Q.bind_some he
  have:=Q.ret_some he
  subst this
  have hsd:s∉d:=by simpa using c3
  have htd:t∉d:=by simpa using c4
  have htl:t<σ.length:=hd _ List.mem_cons_self
  have hsl:s<σ.length:=Classical.byContradiction fun hn=>by
   have:qt σ s=(0,.undef):=by simp only [qt,List.getD_eq_getElem?_getD,List.getElem?_eq_none (Nat.not_lt.1 hn),Option.getD_none]
   rw [this] at hs
   cases hs
  have htu:t∉us.map (·.s):=fun hm=>by
   obtain ⟨u,hu,e⟩:=List.mem_map.1 hm
   have:us.any (fun u=>u.s == t)=true:=List.any_eq_true.2 ⟨u,hu,by simp [e]⟩
   rw [this] at c2
   cases c2
  have hpt:isPb (qt τ t).2:=by
   rcases hi t with e|e
   ·rw [e,qkI us htu,ht]; trivial
   ·exact e.2
  have hown:own' t=[]:=by
   have hr:=hst.rep t (by omega)
   generalize (qt τ t).2=q at hpt hr
   cases q <;> first|exact hpt.elim|exact hr.1
  have hver:(qt τ s).1=(qt σ s).1+qkf s us:=by
   rcases hi s with e|e
   ·rw [e]; exact qoU s us σ hsl
   ·rw [hs] at e; exact e.1.elim
  have hptr:∃b,tm'.getD s undef=ptr b 0∧tm'.getD t undef=ptr b off:=by
   have hr:=h.rep t htl
   rw [ht] at hr
   obtain ⟨b,q1,q2⟩:=hr.2 hv
   exact ⟨b,(hk s hsd).trans q1,(hk t htd).trans q2⟩
  have htl':t<τ.length:=by omega
  have eT:qt (qR τ ⟨t,true,.pbox s (v+qkf s us) off⟩) t=((qt τ t).1+1,.pbox s (v+qkf s us) off):=qM τ ⟨t,true,_⟩ htl'
  have eN:∀x,x≠t→qt (qR τ ⟨t,true,.pbox s (v+qkf s us) off⟩) x=qt τ x:=fun x hx=>qv τ ⟨t,true,.pbox s (v+qkf s us) off⟩ hx
  refine qd5 h hk r (τ:=qR τ ⟨t,true,.pbox s (v+qkf s us) off⟩) (by rw [qak]; exact hl) ?_ ?_ h1 (fun u hu=>hd u (List.mem_cons_of_mem _ hu))
  ·refine hst.update (fun x=>x=t) (qak _ _) rfl (fun x hx=>⟨eN x hx,rfl,rfl⟩) (fun x hx=> .inl (by subst hx; rw [eT]; exact Nat.lt_succ_self _)) (qcx.refl _ _) (fun x hx=>by subst hx; exact htl') (fun x hx=> ?_) (fun x y b hx hy _ _=>hx.trans hy.symm) (fun x hx=> ?_) (fun x hx m hm=> ?_)
   ·subst hx; rw [hown]; exact ⟨fun b hb=>(by cases hb),List.nodup_nil⟩
   ·subst hx
    rw [eT,hown]
    exact ⟨rfl,fun _=>hptr⟩
   ·subst hx
    rw [eT] at hm
    simp only [AV.mentions,List.mem_singleton] at hm
    subst hm
    rw [eN s c5,hver,hv]
    exact Nat.le_refl _
  ·intro x
   by_cases hx:x=t
   ·subst hx
    exact .inr ⟨by rw [ht]; trivial,by rw [eT]; trivial⟩
   ·rw [eN x hx]; exact hi x
theorem qrm (h:qag C σ a.tmps w own) {f0 f:Eff} (hok:(∀u∈f0.upd,u.s<σ.length)→qd3 f0.chk→qdT C o a w (qr σ f0.upd)) (he:(qnO E o f0).run (qt σ)=some f) (hd:∀u∈f.upd,u.s<σ.length) (hc:qd3 f.chk):qdT C o a w (qr σ f.upd):=by
 unfold qnO at he
 split at he
 ·have:=Q.ret_some he
  subst this
  exact hok hd hc
 split at he
 case isFalse=>
  have:=Q.ret_some he
  subst this
  exact hok hd hc
 obtain ⟨us,h1,he⟩:=Q.bind_some he
 have:=Q.ret_some he
 subst this
 intro K Q1 hK
 refine hok (fun u hu=>hd u (List.mem_append_left _ hu)) hc K Q1 fun a' w' own' hde hst=>hK a' w' own' hde ?_
 rw [qbF]
 exact qd5 h (fun s hs=>hde.2 s (fun e=>hs (by simp [e]))) _ (qF _ _) hst (fun x=> .inl rfl) h1 fun u hu=>hd u (List.mem_append_right _ hu)
def GOpOk (C:Ctx) (ops:Array Oper) (o:Oper) (a:Act) (w:World) (τ:St):Prop:=
 ∀(K:Act→World→Prop) (Q:Exit→Act→World→Prop),(∀a' w' own',qus o a a'→qag C τ a'.tmps w' own'→K a' w')→
  if Region.wanted o (yielded ops a.tmps) then o.wp C.P a w K Q else K (a.put o.dst undef) w
theorem qre {ops:Array Oper} {j d:Nat} (hj:(ops[j]?).bind (·.dst)=some d) {tm:Array Value} (want:Bool):(yielded ops tm j=some want)↔tm.getD d undef= .bool want:=by
 unfold yielded
 rw [hj]
 simp only [Option.bind_some]
 cases hd:tm[d]? with
 |none=>
  have:tm.getD d undef=undef:=by simp [Array.getD_eq_getD_getElem?,hd]
  rw [this]
  simp [undef]
 |some v=>
  have:tm.getD d undef=v:=by simp [Array.getD_eq_getD_getElem?,hd]
  rw [this]
  cases v <;> simp
theorem qoz (hE:qbG E C.P) {pin:List Nat} (hF:qoa E C pin) (hpc:qtJ C a.tmps) (h:qag C σ a.tmps w own) {ops:Array Oper} {g:Option (Nat×Bool)} (hg:qf6 ops o=some g) {f:Eff}
  (he:(qis E g o).run (qt σ)=some f) (hd:∀u∈f.upd,u.s<σ.length) (hc:qd3 f.chk):GOpOk C ops o a w (qr σ f.upd):=by
 intro K Q1 hK
 unfold qf6 at hg
 split at hg
 ·rename_i hgd
  injection hg with hg
  subst hg
  have hw:Region.wanted o (yielded ops a.tmps)=true:=by simp [Region.wanted,hgd]
  rw [if_pos hw]
  obtain ⟨f0,h0,he⟩:=Q.bind_some he
  exact qrm h (fun hd hc=>qtj hE hF.fns hF.pins h ⟨hpc,fun q hq=>by cases hq⟩ h0 hd hc) he hd hc K Q1 hK
 ·rename_i j want hgd
  split at hg
  case h_2=>cases hg
  rename_i s hj
  injection hg with hg
  subst hg
  have hw:Region.wanted o (yielded ops a.tmps)=true↔a.tmps.getD s undef= .bool want:=by
   rw [←qre hj want]
   simp [Region.wanted,hgd]
  obtain ⟨pth,h1,he⟩:=Q.bind_some he
  obtain ⟨f1,h2,he⟩:=Q.bind_some he
  obtain ⟨⟨b',r',hp⟩,hpo⟩:=qhz h 8 s want h1
  subst hp
  split at he
  case h_2=>cases he
  rename_i d av d' s1 v1 w1 b1 r1 hupd hdst hpath
  simp only [List.cons.injEq,Prod.mk.injEq] at hpath
  obtain ⟨⟨rfl,rfl,rfl,rfl⟩,rfl⟩:=hpath
  split at he
  case isFalse=>cases he
  rename_i hcond
  obtain ⟨hdd,hun,hnu,hpa⟩:=hcond
  subst hdd
  obtain ⟨_,hm0,he⟩:=Q.bind_some he
  have:=Q.ret_some he
  subst this
  have hms:=qoo _ hm0
  have hdl:d<σ.length:=hd _ (List.mem_singleton.2 rfl)
  have hpd:∀q∈(s,(qt σ s).1,want,b')::r',q.1≠d:=fun q hq=>by
   have:=List.all_eq_true.1 hpa q hq
   simpa using this
  have hsd:s≠d:=hpd _ List.mem_cons_self
  by_cases hwant:Region.wanted o (yielded ops a.tmps)=true
  ·rw [if_pos hwant]
   have ht:=hw.1 hwant
   obtain ⟨k1,k2⟩:=hpo ht
   have hc1:qd3 f1.chk:=by
    intro x hx
    have:=hc (!(qml ((s,(qt σ s).1,want,b')::r'))||x) (List.mem_map.2 ⟨x,hx,rfl⟩)
    rw [k2] at this
    simpa using this
   have hd1:∀u∈f1.upd,u.s<σ.length:=by rw [hupd]; intro u hu; simp at hu; rw [hu]; exact hdl
   have hok:=qtj hE hF.fns hF.pins h ⟨hpc,k1⟩ h2 hd1 hc1
   rw [hupd] at hok
   refine hok K Q1 fun a' w' own0 hde hst0=> ?_
   have eA0:qt (qr σ [⟨d,true,av⟩]) d=((qt σ d).1+1,av):=qM σ ⟨d,true,av⟩ hdl
   obtain ⟨own',hst,_,_,_⟩:=hst0.freeze d
   rw [eA0] at hst
   generalize hτ:qR (qr σ [⟨d,true,av⟩]) ⟨d,false,av.freeze⟩=τ at hst
   have hlen:τ.length=σ.length:=by rw [←hτ,qak,qF]
   have eA:qt τ d=((qt σ d).1+1,av.freeze):=by
    rw [←hτ,qM (qr σ [⟨d,true,av⟩]) ⟨d,false,av.freeze⟩ (by rw [qF]; exact hdl),eA0]
    rfl
   have eA1:∀x,x≠d→qt τ x=qt σ x:=fun x hx=>by
    rw [←hτ,qv _ _ hx]
    exact qv σ ⟨d,true,av⟩ hx
   have eB:qt (qr σ [⟨d,true,.grd s (qt σ s).1 want av.freeze⟩]) d=((qt σ d).1+1,.grd s (qt σ s).1 want av.freeze):=qM σ ⟨d,true,_⟩ hdl
   have eN:∀x,x≠d→qt (qr σ [⟨d,true,.grd s (qt σ s).1 want av.freeze⟩]) x=qt τ x:=fun x hx=>by
    rw [eA1 x hx]
    exact qv σ ⟨d,true,.grd s (qt σ s).1 want av.freeze⟩ hx
   have eV:∀x,(qt (qr σ [⟨d,true,.grd s (qt σ s).1 want av.freeze⟩]) x).1=(qt τ x).1:=fun x=>by
    by_cases hx:x=d
    ·subst hx; rw [eA,eB]
    ·rw [eN x hx]
   have hsure:a'.tmps.getD s undef= .bool want:=qir hst 8 s want (qhQ 8 s want h1 fun q hq=>eA1 q.1 (hpd q hq)) k2
   have hat:=hst.at_ d
   rw [eA] at hat
   have hbs:own' d=[]∧qaF (sit C τ a'.tmps w' own') av.freeze (a'.tmps.getD d undef) []:=by
    refine ⟨?_,hat.unowned hun⟩
    generalize av.freeze=fv at hun hnu hat
    cases fv with
    |undef=>cases hnu
    |own _ _ _=>cases hun
    |agg _=>cases hun
    |box _=>cases hun
    |tup _=>cases hun
    |mp _ _ _=>cases hun
    |_=>exact hat.1
   have kp:∀ {av':AV} {v:Value} {bs:List Nat},qaF (sit C τ a'.tmps w' own') av' v bs→qaF (sit C (qr σ [⟨d,true,.grd s (qt σ s).1 want av.freeze⟩]) a'.tmps w' own') av' v bs:=fun hr=>
    qaF.keep (X:=sit C τ a'.tmps w' own') (X':=sit C (qr σ [⟨d,true,.grd s (qt σ s).1 want av.freeze⟩]) a'.tmps w' own') ⟨rfl,rfl⟩ (fun b hb hlt=>⟨hb,hlt,rfl⟩) (fun _ _ _=>rfl) (fun m _ hv=>⟨(eV m.1).symm.trans hv,rfl,fun b hb _=>⟨hb,rfl⟩⟩) hr
   refine hK a' w' own' hde ⟨by rw [hst.size,hlen,qF],hst.kept,hst.mine,hst.nodup,hst.apart,fun x hx=>hst.outside x (by rw [qF] at hx; rw [hlen]; exact hx),fun x hx=> ?_,fun x m hm=> ?_⟩
   ·by_cases hxd:x=d
    ·subst hxd
     rw [eB,hbs.1]
     exact ⟨rfl,fun _=>⟨fun _=>kp hbs.2,fun hn=>absurd hsure hn⟩⟩
    ·rw [eN x hxd]
     exact kp (hst.rep x (by rw [qF] at hx; rw [hlen]; exact hx))
   ·rw [eV]
    by_cases hxd:x=d
    ·subst hxd
     rw [eB] at hm
     rcases List.mem_cons.1 hm with rfl|hm
     ·rw [eA1 s hsd]
      exact Nat.le_refl _
     ·exact hst.wf x m (by rw [eA]; exact hm)
    ·rw [eN x hxd] at hm
     exact hst.wf x m hm
  ·rw [if_neg hwant]
   have hnt:¬a.tmps.getD s undef= .bool want:=fun e=>hwant (hw.2 e)
   have hdu:qbV o (.grd s (qt σ s).1 want av.freeze)=[⟨d,true,.grd s (qt σ s).1 want av.freeze⟩]:=by unfold qbV; rw [hdst]
   obtain ⟨own',hst⟩:=h.dst0 (o:=o) (av:= .grd s (qt σ s).1 want av.freeze) (v:=undef) (by rw [hdu]; exact hd) ⟨rfl,fun _=>⟨fun e=>absurd e hnt,fun _=>rfl⟩⟩ (fun m hm=>by
    rcases List.mem_cons.1 hm with rfl|hm
    ·exact Nat.le_refl _
    ·exact hms m hm)
   rw [hdu] at hst
   exact hK _ _ own' (qhw o a _) hst
end
end Go.Vi
