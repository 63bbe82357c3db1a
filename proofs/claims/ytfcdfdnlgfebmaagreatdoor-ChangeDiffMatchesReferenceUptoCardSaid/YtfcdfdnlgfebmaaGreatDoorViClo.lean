/- The abstract interpreter: closures that read what they captured. -/
import Derived.Test.YtfcdfdnlgfebmaaGreatDoorViOpC
set_option linter.unusedVariables false
set_option linter.unusedSimpArgs false
set_option linter.unnecessarySimpa false
set_option linter.unusedSectionVars false
namespace Go.Vi
open Go.RowKit
section
variable {C:Ctx} {E:Env} {σ:St} {tm:Array Value} {a:Act} {w w':World} {own:Nat→List Nat} {o:Oper} {p:qhl} [Tabbed E C]
theorem qag.expose (h:qag C σ tm w own) {s:Nat} {c:BC} {u:Ty} {x:u.den} {f:Bool} (hs:(qt σ s).2= .box c) (hsz:c.size=u.size) (hg:c.get 0 u=some (x,f)):
  ∃own',qag C (qR σ ⟨s,true,.view u x 0⟩) tm w own'∧(∀b,C.free w own b→C.free w own' b)∧(∀s',∀b∈own' s',b∈own s')∧
   ∃(b:Nat) (cs:List Value),tm.getD s undef= .pointer (some ⟨b,0,none⟩)∧C.free w own' b∧b<w.heap.size∧qgJ w ⟨b,0,none⟩ cs∧Rep w (C.free w own') u x cs:=by
 have hsl:s<σ.length:=qiP (by rw [hs]; simp)
 have hr:=h.rep s hsl
 rw [hs] at hr
 obtain ⟨b,cs,bs',te,h1,h2,h3,h4⟩:=hr
 let own':Nat→List Nat:=fun s'=>if s'=s then [] else own s'
 have sub:∀s',∀b∈own' s',b∈own s':=fun s' b hb=>by
  simp only [own'] at hb
  split at hb
  ·cases hb
  ·exact hb
 have mono:∀b,C.free w own b→C.free w own' b:=fun b hb=>⟨hb.1,hb.2.1,fun s' hs'=>hb.2.2 s' (sub s' b hs')⟩
 have new:∀b∈own s,C.free w own' b:=fun b hb=>⟨.inr (h.mine s b hb).1,(h.mine s b hb).2,fun s' hs'=>by
  have:=h.apart s s' b hb (sub s' b hs')
  subst this
  simp [own'] at hs'⟩
 have hb0:b∈own s:=by rw [h4]; exact List.mem_cons_self
 obtain ⟨q1,q2,_⟩:=h3.get hg
 have hlen:=h3.length
 rw [List.drop_zero,List.take_of_length_le (by omega)] at q2
 have hrep:Rep w (C.free w own') u x cs:=q2.keep fun b' hb' hlt=>⟨by
  rcases hb' with hb'|hb'
  ·exact mono b' hb'
  ·exact new b' (by rw [h4]; exact List.mem_cons_of_mem _ hb'),hlt,rfl⟩
 have hcl:qgJ w ⟨b,0,none⟩ cs:=by
  have:=qhJ (off:=0) (n:=cs.length) h2
  rwa [List.drop_zero,List.take_length] at this
 have hlt:b<w.heap.size:=(h.mine s b hb0).2
 have eS:qt (qR σ ⟨s,true,.view u x 0⟩) s=((qt σ s).1+1,.view u x 0):=qM σ ⟨s,true,_⟩ hsl
 refine ⟨own',?_,mono,sub,b,cs,h1,new b hb0,hlt,hcl,hrep⟩
 refine h.update (fun x=>x=s) (qak _ _) rfl (fun s' hs'=>⟨qv σ ⟨s,true,.view u x 0⟩ hs',rfl,by simp [own',hs']⟩) (fun s' hs'=> .inl (by subst hs'; rw [eS]; exact Nat.lt_succ_self _)) (qcx.refl _ _) (fun s' hs'=>by subst hs'; exact hsl) (fun s' hs'=> ?_) (fun x y b hx hy _ _=>hx.trans hy.symm) (fun s' hs'=> ?_) (fun s' hs' m hm=> ?_)
 ·subst hs'
  simp only [own',if_true]
  exact ⟨fun b hb=>(by cases hb),List.nodup_nil⟩
 ·subst hs'
  rw [eS]
  simp only [own',if_true]
  exact ⟨rfl,⟨b,0,none⟩,cs,by rw [h1]; rfl,new b hb0,hlt,hcl,hrep⟩
 ·subst hs'
  rw [eS] at hm
  cases hm
def qiN (w:World) (F:Nat→Prop):(us:List Ty)→denL us→List Value→Prop
 |[],_,vs=>vs=[]
 |u::us,x,vs=>∃(ad:Addr) (cs:List Value) (r:List Value),vs= .pointer (some ad)::r∧F ad.block∧ad.block<w.heap.size∧qgJ w ad cs∧Rep w F u x.1 cs∧qiN w F us x.2 r
theorem qiN.keep {w w':World} {F F':Nat→Prop} (hF:∀b,F b→b<w.heap.size→F' b∧b<w'.heap.size∧w'.heap[b]? =w.heap[b]?):(us:List Ty)→ {x:denL us} → {vs:List Value} →qiN w F us x vs→qiN w' F' us x vs
 |[],_,_,h=>h
 |u::us,_,_,⟨ad,cs,r,h1,h2,h3,h4,h5,h6⟩=>by
  obtain ⟨g1,g2,g3⟩:=hF _ h2 h3
  exact ⟨ad,cs,r,h1,g1,g2,fun j z hj=>by rw [←h4 j z hj]; exact World.cell?_of_block (by rw [qT]; exact g3),h5.keep hF,h6.keep hF us⟩
theorem qkt {P:Program} {w:World} {F:Nat→Prop} :(ts us:List Ty)→ {x:denL ts} → {y:denL us} → {vs cs:List Value} →qdf w F ts x vs→qiN w F us y cs→qas P w F (valPs ts++rdPs us) (qpD ts us x y) (vs++cs) [] []
 |[],[],_,_,vs,cs,h1,h2=>by
  have h1:vs=[]:=h1
  have h2:cs=[]:=h2
  subst h1; subst h2
  exact ⟨rfl,rfl,rfl⟩
 |[],u::us,_,_,vs,cs,h1,⟨ad,ds,r,k1,k2,k3,k4,k5,k6⟩=>by
  have h1:vs=[]:=h1
  subst h1
  exact ⟨ad,ds,r,k1,k2,k3,k4,k5,qkt [] us (x:=()) (vs:=[]) rfl k6⟩
 |t::ts,us,_,_,vs,cs,⟨v,r,h1,h2,h3⟩,h4=>by
  subst h1
  exact ⟨v,r++cs,rfl,h2,qkt ts us h3 h4⟩
theorem ql1:(us:List Ty)→(ops:List Operand)→ {q:denL us×List U} →(qqg us ops).run (qt σ)=some q→(qgW ops).Nodup→ {τ:St} → {own:Nat→List Nat} →qag C τ a.tmps w own→(∀s∈qgW ops,qt τ s=qt σ s)→
  ∃own',qag C (qr τ q.2) a.tmps w own'∧(∀b,C.free w own b→C.free w own' b)∧qiN w (C.free w own') us q.1 (ops.map a.eval)∧∀u∈q.2,u.s∈qgW ops
 |[],[],q,he,_,τ,own,h,_=>by
  have:=Q.ret_some he
  subst this
  exact ⟨own,h,fun _ hb=>hb,rfl,fun u hu=>by cases hu⟩
 |[],_::_,_,he,_,_,_,_,_=>by cases he
 |_::_,[],_,he,_,_,_,_,_=>by cases he
 |u::us,.const _::_,_,he,_,_,_,_,_=>by cases he
 |u::us,.func _::_,_,he,_,_,_,_,_=>by cases he
 |u::us,.global _::_,_,he,_,_,_,_,_=>by cases he
 |u::us,.tmp s::r,q,he,hn,τ,own,h,hsame=>by
  simp only [qqg,Q.run_get] at he
  obtain ⟨q1,h1,he⟩:=Q.bind_some he
  have hn:=List.nodup_cons.1 hn
  have hs0:=hsame s List.mem_cons_self
  split at he
  ·rename_i c hc
   split at he
   case isFalse=>cases he
   rename_i hsz
   split at he
   case h_2=>cases he
   rename_i x f hg
   have:=Q.ret_some he
   subst this
   obtain ⟨own1,k1,k2,k3,b,cs,k4,k5,k6,k7,k8⟩:=h.expose (by rw [hs0]; exact hc) hsz hg
   obtain ⟨own2,g1,g2,g3,g4⟩:=ql1 us r h1 hn.2 k1 (fun s' hs'=>by
    rw [qv τ ⟨s,true,.view u x 0⟩ (show s'≠s from fun e=>hn.1 (e ▸ hs'))]
    exact hsame s' (List.mem_cons_of_mem _ hs'))
   refine ⟨own2,g1,fun b hb=>g2 b (k2 b hb),⟨⟨b,0,none⟩,cs,_,?_,g2 b k5,k6,k7,k8.keep fun b hb hlt=>⟨g2 b hb,hlt,rfl⟩,g3⟩,fun u' hu'=> ?_⟩
   ·simp only [List.map_cons]
    congr 1
   ·rcases List.mem_cons.1 hu' with rfl|hu'
    ·exact List.mem_cons_self
    ·exact List.mem_cons_of_mem _ (g4 u' hu')
  ·rename_i t y off hv
   split at he
   case h_2=>cases he
   rename_i x hsub
   have:=Q.ret_some he
   subst this
   obtain ⟨own2,g1,g2,g3,g4⟩:=ql1 us r h1 hn.2 h (fun s' hs'=>hsame s' (List.mem_cons_of_mem _ hs'))
   have hsl:s<τ.length:=qiP (by rw [hs0,hv]; simp)
   have hr:=h.rep s hsl
   rw [hs0,hv] at hr
   obtain ⟨_,ad,cs,m1,m2,m3,m4,m5⟩:=hr
   obtain ⟨n1,n2⟩:=m5.sub hsub
   refine ⟨own2,g1,g2,⟨ad.add off,(cs.drop off).take u.size,_,?_,?_,?_,qoE m4,n2.keep fun b hb hlt=>⟨g2 b hb,hlt,rfl⟩,g3⟩,fun u' hu'=>List.mem_cons_of_mem _ (g4 u' hu')⟩
   ·simp only [List.map_cons]
    congr 1
   ·rw [qT]; exact g2 _ m2
   ·rw [qT]; exact m3
  ·cases he
theorem qng (hF:qeE E C.P) (h:qag C σ a.tmps w own) {fn:Fn} {first caps:Array Operand} (hop:o.op= .makeFunc fn first caps) {f:Eff}
  (he:(qee E p o).run (qt σ)=some f) (hd:∀u∈f.upd,u.s<σ.length):qdT C o a w (qr σ f.upd):=by
 unfold qee at he
 rw [hop] at he
 simp only at he
 split at he
 case h_2=>cases he
 rename_i g
 split at he
 case isFalse=>cases he
 rename_i hfirst
 unfold cloE at he
 split at he
 case h_2=>cases he
 rename_i D hD
 split at he
 case h_2=>cases he
 rename_i ts us vs hp1 hp2
 split at he
 case isFalse=>cases he
 rename_i hty
 obtain ⟨q,h1,he⟩:=Q.bind_some he
 split at he
 case isFalse=>cases he
 rename_i hcond
 simp only [Bool.and_eq_true] at hcond
 have:=Q.ret_some he
 subst this
 have hnd:=qd9 hcond.1
 obtain ⟨own',k1,k2,k3,k4⟩:=ql1 us caps.toList h1 hnd h (fun _ _=>rfl)
 have hok:=hF g D hD
 obtain ⟨ps,rs,sem⟩:=D
 obtain ⟨e1,e2⟩:=hty
 simp only at e1 e2 hp1 hp2
 subst e1; subst e2
 have hrun:(execOp a.eval o).run C.P w= .ok (.value (.func (.func g) #[] (caps.map a.eval))) w:=by
  unfold execOp
  rw [hop]
  have hf0:first= #[]:=by simpa using hfirst
  subst hf0
  simp only [Instr.makeFunc,Sem.run_bind,Sem.run_pure,Result.andThen_ok,Array.map_empty]
 have hrep:qni C.P w (C.free w own') ts vs (fun x:denL ts=>qhf (fun y:RMs.den (valRs vs)×PMs.ioDen (valPs ts++rdPs us)=>qvt vs y.1) (sem (qpD ts us x q.1))) (.func (.func g) #[] (caps.map a.eval)):=by
  refine ⟨g,caps.map a.eval,rfl,hok.1,fun w' F' x y as hkp hvals hy=> ?_⟩
  simp only [qce,Option.map_eq_some_iff] at hy
  obtain ⟨z,hz,rfl⟩:=hy
  have hcaps:qiN w' F' us q.1 (caps.map a.eval).toList:=by
   have:=k3.keep hkp us
   simpa using this
  have hpar:=qkt (P:=C.P) ts us hvals hcaps
  have:=hok.2 w' F' (qpD ts us x q.1) z (as++(caps.map a.eval).toList) [] [] ((qag.tabsE (E:=E) k1).keep hkp) hpar (fun b hb=>by cases hb) List.nodup_nil hz
  have e:(as++(caps.map a.eval).toList).toArray=as.toArray++caps.map a.eval:=by simp
  rw [e] at this
  refine Calls.mono this ?_
  rintro e w'' ⟨v',rfl,rs,bs,rfl,_,_,hres,_,hk⟩
  obtain ⟨m1,rfl⟩:=qkj vs hres
  refine ⟨rs,rfl,m1.mono vs fun b hb=> ?_,hk.mono fun b hb=>by cases hb⟩
  rcases hb.1 with h|h|h
  ·exact .inl h
  ·cases h
  ·exact .inr h
 have hd2:∀u∈qbV o (.fnv ts vs (fun x:denL ts=>qhf (fun y:RMs.den (valRs vs)×PMs.ioDen (valPs ts++rdPs us)=>qvt vs y.1) (sem (qpD ts us x q.1)))),u.s<(qr σ q.2).length:=fun u hu=>by
  rw [qF]; exact hd u (List.mem_append_right _ hu)
 obtain ⟨own2,hst⟩:=k1.dst0 (o:=o) (av:= .fnv ts vs (fun x:denL ts=>qhf (fun y:RMs.den (valRs vs)×PMs.ioDen (valPs ts++rdPs us)=>qvt vs y.1) (sem (qpD ts us x q.1)))) (v:= .func (.func g) #[] (caps.map a.eval)) hd2 ⟨rfl,hrep⟩ (fun m hm=>by cases hm)
 intro K Q1 hK
 unfold Oper.wp
 rw [hrun]
 rw [qbF] at hK
 exact hK _ _ own2 (qhw o a _) hst
end
end Go.Vi
