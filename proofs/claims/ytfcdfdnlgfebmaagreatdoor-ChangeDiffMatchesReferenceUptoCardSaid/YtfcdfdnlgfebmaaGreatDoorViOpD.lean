/- The abstract interpreter: every operation. -/
import Derived.Test.YtfcdfdnlgfebmaaGreatDoorViMap
set_option linter.unusedVariables false
set_option linter.unusedSimpArgs false
set_option linter.unnecessarySimpa false
set_option linter.unusedSectionVars false
namespace Go.Vi
open Go.RowKit
structure qoa (E:Env) (C:Ctx) (pin:List Nat):Prop where
 fns:qeE E C.P
 pins:∀k∈E.pins,∃b,C.pn k=some b
 sub:∀k b,C.pn k=some b→k∈pin
def qtJ (C:Ctx) (tm:Array Value):Prop:=∀k b,C.pn k=some b→tm.getD k undef=ptr b 0
section
variable {C:Ctx} {E:Env} {σ:St} {tm:Array Value} {a:Act} {w w':World} {own:Nat→List Nat} {o:Oper} {p:qhl} [Tabbed E C]
theorem qfB {a b:List Nat} (h:apart a b=true):∀s∈a,s∉b:=by
 intro s hs hb
 have:=List.all_eq_true.1 h s hs
 simp at this
 exact this hb
theorem qbW.turn {σ':St} {own':Nat→List Nat} (hl:σ'.length=σ.length): {ps:List PM} → {as:List Value} → {ss i inn:List Nat} →(∀s∈ss,own' s=own s)→qbW σ tm own ps as ss i inn→qbW σ' tm own' ps as ss i inn
 |[],_,_,_,_,_,h=>h
 | .io _::ps,_,_,_,_,hs,⟨s,r,b,i2,n1,n2,h1,h2,h3,h4,h5,h6,h7⟩=>by
  subst h1
  exact ⟨s,r,b,i2,n1,n2,rfl,h2,h3,by rw [hs s List.mem_cons_self]; exact h4,h5,by rw [hl]; exact h6,h7.turn hl fun s' hs'=>hs s' (List.mem_cons_of_mem _ hs')⟩
 | .ior _ _::ps,_,_,_,_,hs,⟨s,r,i1,i2,h1,h2,h3,h4,h5,h6,h7⟩=>by
  subst h1
  exact ⟨s,r,i1,i2,rfl,h2,by rw [hs s List.mem_cons_self]; exact h3,h4,h5,by rw [hl]; exact h6,h7.turn hl fun s' hs'=>hs s' (List.mem_cons_of_mem _ hs')⟩
 | .val _::ps,_,_,_,_,hs,h=>qbW.turn (ps:=ps) hl hs h
 | .own _ _::ps,_,_,_,_,hs,h=>qbW.turn (ps:=ps) hl hs h
 | .fn _ _::ps,_,_,_,_,hs,h=>qbW.turn (ps:=ps) hl hs h
 | .nil _ _::ps,_,_,_,_,hs,h=>qbW.turn (ps:=ps) hl hs h
 | .rd _::ps,_,_,_,_,hs,h=>qbW.turn (ps:=ps) hl hs h
theorem qlA:(ts:List Ty)→(as:List Value)→qbW σ tm own (valPs ts) as [] [] []
 |[],_=>⟨rfl,rfl,rfl⟩
 |_::r,as=>qlA r as.tail
theorem qtY (h:qag C σ a.tmps w own) (hpt:qtC (sit C σ a.tmps w own)) {D:qk} {fn:Nat} (hD:D.okT C.P E.tabs fn) (hFn:qeE E C.P) {os:List Op1} {vs:List Value} (ho:qls (sit C σ a.tmps w own) os vs) (hlt:∀o1∈os,∀s,o1.s=some s→o1.a≠ .undef→s<σ.length)
  {f:Eff} (he:(qvI E o D os).run (qt σ)=some f) (hd:∀u∈f.upd,u.s<σ.length) (hc:qd3 f.chk)
  (hr:(execOp a.eval o).run C.P w= .ok (.enter fn vs.toArray) w):qdT C o a w (qr σ f.upd):=by
 unfold qvI at he
 obtain ⟨A,h1,he⟩:=Q.bind_some he
 split at he
 case isFalse=>cases he
 rename_i hcond
 simp only [Bool.and_eq_true] at hcond
 obtain ⟨⟨c1,c2⟩,c3⟩:=hcond
 obtain ⟨fz,h2,he⟩:=Q.bind_some he
 have:=Q.ret_some he
 subst this
 have hsem:∃y,D.sem A.x=some y:=by
  have:=hc _ (List.mem_singleton.2 rfl)
  exact Option.isSome_iff_exists.1 (by rw [qgb] at this; exact this)
 obtain ⟨y,hy⟩:=hsem
 simp only [hy,qk0,Option.getD_some] at hd⊢
 obtain ⟨g,i,inn,k1,k2,k3,k4,k5⟩:=qdz hFn h hpt D.ps ho hlt h1
 have hdst:∀d,o.dst=some d→d∉A.gone++A.ios:=fun d hd=>qfB c3 d (by simp [hd])
 have hnd:=qd9 c1
 have hap:=qfB c2
 by_cases hfl:(RMs.flat D.rs&&PMs.ioFlat D.ps)=true
 ·rw [if_pos hfl] at h2
  have:=Q.ret_some h2
  subst this
  simp only [Bool.and_eq_true] at hfl
  refine qlY h (fun hpre hgi=>hD.2 w _ A.x y vs g i (h.tabsE.keep fun b hb hlt=>⟨.inl (.inl hb),hlt,rfl⟩) k1 hpre hgi hy) k2 k3 k4 k5 (fun b hb=> ?_) (.inl hfl) hnd hdst (fun u hu=>hd u (List.mem_append_right _ (List.mem_append_right _ hu))) hr
  rcases hb with (hb|⟨s,hs,hb,_⟩)|hb
  ·exact .inl hb
  ·exact .inr (.inr ⟨s,hap s hs,hb⟩)
  ·exact .inr (.inl hb)
 ·rw [if_neg hfl] at h2
  obtain ⟨own',q1,q2,q3,q4⟩:=qcC A.ow h h2
  have same:∀s∈A.gone++A.ios,own' s=own s:=fun s hs=>(q3 s fun hm=>hap s hm hs).1
  rw [qbF]
  have k1':qas C.P w (fun b=>C.free w own' b∨b∈inn) D.ps A.x vs g i:=k1.mono (fun b hb=>hb.imp (q4 b) id) D.ps
  refine qlY q1 (F:=fun b=>C.free w own' b∨b∈inn) (fun hpre hgi=>hD.2 w _ A.x y vs g i (q1.tabsE.keep fun b hb hlt=>⟨.inl hb,hlt,rfl⟩) k1' hpre hgi hy) (fun b hb=> ?_) k3 (fun s hs=>by rw [qF]; exact k4 s hs) (k5.turn (qF _ _) fun s hs=>same s (List.mem_append_right _ hs)) (fun b hb=> ?_) (.inr fun b hb=>hb) hnd hdst (fun u hu=>by rw [qF]; exact hd u (List.mem_append_right _ (List.mem_append_right _ hu))) hr
  ·obtain ⟨s,hs,hb⟩:=k2 b hb
   exact ⟨s,hs,by rw [same s (List.mem_append_left _ hs)]; exact hb⟩
  ·rcases hb with hb|hb
   ·exact .inl hb
   ·exact .inr (.inl hb)
theorem qnz (h:qag C σ a.tmps w own):∀(xs:List Operand) (ts:List Nat) {os:List Op1},(opds E p xs ts).run (qt σ)=some os→∀o1∈os,∀s,o1.s=some s→o1.a≠ .undef→s<σ.length
 |[],_,os,he=>by
  have:=Q.ret_some he
  subst this
  intro o1 ho1
  cases ho1
 |x::xs,ts,os,he=>by
  obtain ⟨o1,h1,he⟩:=Q.bind_some he
  obtain ⟨r,h2,he⟩:=Q.bind_some he
  have:=Q.ret_some he
  subst this
  intro o2 ho2
  rcases List.mem_cons.1 ho2 with rfl|ho2
  ·exact qoK h1
  ·exact qnz h xs ts.tail h2 o2 ho2
theorem qup (h:qag C σ a.tmps w own) (hpt:qtC (sit C σ a.tmps w own)) (hFn:qeE E C.P) {ts us:List Ty} {φ:denL ts→Option (denL us)} {fv:Value} (hfv:qni C.P w (C.free w own) ts us φ fv) {os:List Op1} {vs:List Value} (ho:qls (sit C σ a.tmps w own) os vs) (hlt:∀o1∈os,∀s,o1.s=some s→o1.a≠ .undef→s<σ.length)
  {f:Eff} (he:(qu8 E o ts us φ os).run (qt σ)=some f) (hd:∀u∈f.upd,u.s<σ.length) (hc:qd3 f.chk)
  (hr:∀fn caps,fv= .func (.func fn) #[] caps→(∀as w',(callFunc fn as).run C.P w'= .ok (.enter fn as) w')→(execOp a.eval o).run C.P w= .ok (.enter fn (vs.toArray++caps)) w):qdT C o a w (qr σ f.upd):=by
 unfold qu8 at he
 obtain ⟨A,h1,he⟩:=Q.bind_some he
 obtain ⟨fz,h2,he⟩:=Q.bind_some he
 have:=Q.ret_some he
 subst this
 have hsem:∃y,φ (qtR ts A.x)=some y:=by
  have:=hc _ (List.mem_singleton.2 rfl)
  exact Option.isSome_iff_exists.1 (by rw [qgb] at this; exact this)
 obtain ⟨y,hy⟩:=hsem
 simp only [hy,qk0,Option.getD_some] at hd⊢
 obtain ⟨g,i,inn,k1,k2,k3,k4,k5⟩:=qdz hFn h hpt (valPs ts) ho hlt h1
 obtain ⟨e1,e2,e3⟩:=qlB ts h1
 obtain ⟨k6,rfl,rfl⟩:=qi2 ts k1
 obtain ⟨fn,caps,hfv1,hfv2,hfv3⟩:=hfv
 have hio:PMs.ioFlat (valPs ts)=true:=qkx ts
 have hups:qfp (valPs ts) (PMs.ioDflt (valPs ts)) []=[]:=qlg ts _
 have hinn:inn=[]:=(qkF ts k5).2.2
 subst hinn
 let D:qk:=⟨valPs ts,valRs us,fun _=>none⟩
 have fin:∀ {σ2:St} {own2:Nat→List Nat} {F:Nat→Prop},qag C σ2 a.tmps w own2→(∀b,C.free w own b→F b)→qdf w F ts (qtR ts A.x) vs→(∀b,F b→C.free w own2 b∨b∈[]∨(∃s,s∉[]++[]∧b∈own2 s))→
   ((RMs.flat (valRs us)=true∧PMs.ioFlat (valPs ts)=true)∨∀b,F b→C.free w own2 b∨b∈[])→(∀u∈qbV o (qix (valRs us) (qtq us y)),u.s<σ2.length)→
   qdT C o a w (qr σ2 (qbV o (qix (valRs us) (qtq us y)))):=by
  intro σ2 own2 F hst hfr hval hF1 hF2 hd2
  have:=qlY (D:=D) (f:=fn) (y:=(qtq us y,PMs.ioDflt (valPs ts))) (as:=vs.toArray++caps) (gone:=[]) (ios:=[]) (g:=[]) (i:=[]) (inn:=[]) (al:=vs) (F:=F) hst (fun _ _=> ?_) (fun b hb=>by cases hb) (fun _=>List.nodup_nil) (fun s hs=>by cases hs) (qlA ts vs) hF1 hF2 List.nodup_nil (fun d _ hm=>by cases hm) hd2 (hr fn caps hfv1 hfv2)
  ·have e:([]:List Nat).map (fun s=>(⟨s,true,.undef⟩:U))++qfp D.ps (PMs.ioDflt (valPs ts)) []++qbV o (qix D.rs (qtq us y))=qbV o (qix (valRs us) (qtq us y)):=by
    show qfp (valPs ts) (PMs.ioDflt (valPs ts)) []++_=_
    rw [hups]; rfl
   simp only at this
   rw [e] at this
   exact this
  ·refine Calls.mono (hfv3 w F (qtR ts A.x) y vs (fun b hb hlt=>⟨hfr b hb,hlt,rfl⟩) hval hy) ?_
   rintro e w' ⟨rs,rfl,hvs,hk⟩
   have m1:qaW w' (qlx w F [] [] []) (qc1 D.rs (qtq us y)) rs []:=qib us (hvs.mono us fun b hb=>⟨hb.elim .inl fun h=> .inr (.inr h),by simp,by simp⟩)
   have m2:qcV w' (qlx w F [] [] []) D.ps (PMs.ioDflt (valPs ts)) vs []:=qhW ts
   have m0:∀b∈([]:List Nat),(b∈([]:List Nat)∨w.heap.size≤b)∧b<w'.heap.size:=fun b hb=>by cases hb
   exact ⟨_,rfl,rs,[],rfl,List.nodup_nil,m0,m1,m2,hk.mono fun _ h=>h.elim⟩
 by_cases hfl:RMs.flat (valRs us)=true
 ·rw [if_pos hfl] at h2
  have:=Q.ret_some h2
  subst this
  refine fin h (fun b hb=> .inl (.inl hb)) k6 (fun b hb=> ?_) (.inl ⟨hfl,hio⟩) hd
  rcases hb with (hb|⟨s,hs,hb,_⟩)|hb
  ·exact .inl hb
  ·exact .inr (.inr ⟨s,by simp,hb⟩)
  ·cases hb
 ·rw [if_neg hfl] at h2
  obtain ⟨own',q1,q2,q3,q4⟩:=qcC A.ow h h2
  rw [qbF]
  refine fin (F:=fun b=>C.free w own' b∨b∈([]:List Nat)) q1 (fun b hb=> .inl (q4 b (.inl hb))) (k6.mono ts fun b hb=>hb.imp (q4 b) id) (fun b hb=>hb.elim .inl fun h=>by cases h) (.inr fun b hb=>hb) (fun u hu=>by rw [qF]; exact hd u (List.mem_append_right _ hu))
theorem qrY (hE:qbG E C.P) (hF:qeE E C.P) (h:qag C σ a.tmps w own) (hp:qbL (sit C σ a.tmps w own) p) {c:Call} (hop:o.op= .call c) {f:Eff}
  (he:(qee E p o).run (qt σ)=some f) (hd:∀u∈f.upd,u.s<σ.length) (hc:qd3 f.chk):qdT C o a w (qr σ f.upd):=by
 unfold qee at he
 rw [hop] at he
 simp only at he
 split at he
 ·rename_i b hb
  obtain ⟨os,h1,he⟩:=Q.bind_some he
  refine qpQ hE h (qnw h hp _ _ h1) (qnz h _ _ h1) he hd hc ⟨o.type,(c.args.map fun| .const _=>true|_=>false),?_⟩
  unfold execOp
  rw [hop]
  simp only [resolve,hb,Sem.run_bind,Sem.run_pure,Result.andThen_ok,invoke]
  rw [show c.args.map a.eval=(c.args.toList.map a.eval).toArray from by apply Array.ext'; simp,show c.argTypes.toList.toArray=c.argTypes from by simp]
  rfl
 ·rename_i x hx
  split at he
  ·rename_i fn
   split at he
   ·rename_i D hD
    obtain ⟨os,h1,he⟩:=Q.bind_some he
    refine qtY h hp.1 (hF fn D hD) hF (qnw h hp _ _ h1) (qnz h _ _ h1) he hd hc ?_
    unfold execOp
    rw [hop]
    have e1:a.eval (.func fn)= .func (.func fn) #[] #[]:=rfl
    simp only [resolve,hx,e1,Deferred.ofValue,Sem.run_bind,Sem.run_pure,Result.andThen_ok,invoke]
    rw [show c.args.map a.eval=(c.args.toList.map a.eval).toArray from by apply Array.ext'; simp]
    simpa using (hF fn D hD).1 (c.args.toList.map a.eval).toArray w
   ·cases he
  ·rename_i s
   rw [Q.run_get] at he
   have hop1:=qaE h hp (E:=E) (tid:=0) (x:= .tmp s) (o1:=⟨some s,(qt σ s).1,qbM p (qt σ s).2⟩) rfl
   split at he
   case h_2=>cases he
   rename_i ts us φ hst
   obtain ⟨os,h1,he⟩:=Q.bind_some he
   have hfv:qni C.P w (C.free w own) ts us φ (a.eval (.tmp s)):=by
    have:=hop1.unowned (by rw [hst]; rfl)
    rw [hst] at this
    exact this.2
   refine qup h hp.1 hF hfv (qnw h hp _ _ h1) (qnz h _ _ h1) he hd hc fun fn caps hfe henter=> ?_
   unfold execOp
   rw [hop]
   simp only [resolve,hx,hfe,Deferred.ofValue,Sem.run_bind,Sem.run_pure,Result.andThen_ok,invoke]
   rw [show c.args.map a.eval=(c.args.toList.map a.eval).toArray from by apply Array.ext'; simp]
   simpa using henter ((c.args.toList.map a.eval).toArray++caps) w
  ·cases he
 ·cases he
theorem qtj (hE:qbG E C.P) (hF:qeE E C.P) (hpn:∀k∈E.pins,∃b,C.pn k=some b) (h:qag C σ a.tmps w own) (hp:qbL (sit C σ a.tmps w own) p) {f:Eff}
  (he:(qee E p o).run (qt σ)=some f) (hd:∀u∈f.upd,u.s<σ.length) (hc:qd3 f.chk):qdT C o a w (qr σ f.upd):=by
 cases hop:o.op with
 |move x=>exact qor hpn h hp (as:=false) hop he hd hc
 |assign x=>exact qor hpn h hp (as:=true) hop he hd hc
 |pick c x y=>exact qsB h hp hop he hd hc
 |alloc t=>exact qqQ hE h hp hop he hd hc
 |box t x=>exact qug hE h hp hop he hd hc
 |build t ps=>exact qrg hE h hp hop he hd hc
 |buildSlice t n ps=>exact qlO hE h hp hop he hd hc
 |load t x=>exact qsD hE h hp hop he hd hc
 |store t x y=>exact qq0 hE h hp hop he hd hc
 |nilCheck x=>exact qn2 h hp hop he hd hc
 |binOp op t x y b=>exact qq9 hE h hp hop he hd hc
 |unOp op t x=>exact qs7 h hp hop he hd hc
 |convert s d x=>exact qos hE h hp hop he hd hc
 |slice t x lo hi mx=>
  cases mx with
  |none=>exact qrj hE h hp hop he hd hc
  |some m=>unfold qee at he; rw [hop] at he; cases he
 |fieldAddr t x f=>exact qmo hE h hp hop he hd hc
 |field t x f=>exact qrd hE h hp hop he hd hc
 |indexAddr t x ix=>exact qmm hE h hp hop he hd hc
 |index t x ix=>exact qrh hE h hp hop he hd hc
 |extract x i=>exact qo2 h hp hop he hd hc
 |makeSlice t x y=>exact qmi hE h hp hop he hd hc
 |call c=>exact qrY hE hF h hp hop he hd hc
 |makeFunc fn first caps=>exact qng hF h hop he hd
 |makeMap t r=>exact qoD hE h hop he hd
 |lookup t m k ok=>exact qpX hE h hp hop he hd
 |mapUpdate t m k x=>exact qmv hE h hp hop he hd
 |_=>unfold qee at he; rw [hop] at he; cases he
end
end Go.Vi
