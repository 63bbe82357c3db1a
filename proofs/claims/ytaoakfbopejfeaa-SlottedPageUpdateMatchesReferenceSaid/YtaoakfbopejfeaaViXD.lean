import Derived.Test.YtaoakfbopejfeaaViXC
import Derived.Deep.LoopGhost
import Derived.Orders
import Derived.Test.YtaoakfbopejfeaaViXB
import Derived.Test.YtaoakfbopejfeaaViXA
import Derived.Carry
import Derived.OpenShut
import Derived.ChangeSame
import Derived.WideShapes
set_option linter.unusedVariables false
set_option linter.unusedSimpArgs false
set_option linter.unnecessarySimpa false
set_option linter.unusedSectionVars false
namespace Go.Vi
open Go.RowKit
section
variable {C:Ctx} {E:Env} {σ τ:St} {tm:Array Value} {a:Act} {w w':World} {own:Nat→List Nat} {o:Oper} {p:qdR} [Tabbed E C]
theorem qv.retag (h:qv C σ tm w own) (hl:τ.length=σ.length) (B:Nat→Prop) (hsame:∀s,¬B s→qb τ s=qb σ s)
  (hB:∀s,B s→(qb τ s).2.mentions=[]∧∀v,qL (sit C σ tm w own) (qb σ s).2 v (own s)→qL (sit C σ tm w own) (qb τ s).2 v (own s))
  (hv:∀s m,¬B s→m∈(qb σ s).2.mentions→B m.1→m.2<(qb τ m.1).1):qv C τ tm w own:=by
 refine ⟨by rw [hl]; exact h.size,h.kept,h.mine,h.nodup,h.apart,fun s hs=>h.outside s (by omega),fun s hs=> ?_,fun s m hm=> ?_⟩
 ·have hr:=h.rep s (by omega)
  by_cases hb:B s
  ·obtain ⟨k1,k2⟩:=hB s hb
   exact qL.keep (X:=sit C σ tm w own) (X':=sit C τ tm w own) ⟨rfl,rfl⟩ (fun b hb hlt=>⟨hb,hlt,rfl⟩) (fun _ _ _=>rfl) (fun m hm=>by rw [k1] at hm; cases hm) (k2 _ hr)
  ·rw [hsame s hb]
   refine qL.keep (X:=sit C σ tm w own) (X':=sit C τ tm w own) ⟨rfl,rfl⟩ (fun b hb hlt=>⟨hb,hlt,rfl⟩) (fun _ _ _=>rfl) (fun m hm hv'=> ?_) hr
   have hv':(qb τ m.1).1=m.2:=hv'
   by_cases hbm:B m.1
   ·have:=hv s m hb hm hbm
    omega
   ·rw [hsame m.1 hbm] at hv'
    exact ⟨hv',rfl,fun b hb _=>⟨hb,rfl⟩⟩
 ·by_cases hb:B s
  ·rw [(hB s hb).1] at hm; cases hm
  ·rw [hsame s hb] at hm
   by_cases hbm:B m.1
   ·exact Nat.le_of_lt (hv s m hb hm hbm)
   ·rw [hsame m.1 hbm]
    exact h.wf s m hm
theorem qde {F:Nat→Prop} (b:Bool): {x y r:BC} → {cs:List Value} → {bs:List Nat} →qc4.joinB b x y=some r→qP w F (bif b then x else y) cs bs→qP w F r cs bs
 | .val t x,.val u y,r,cs,bs,hj,h=>by
  simp only [qc4.joinB] at hj
  split at hj
  ·rename_i z hz
   injection hj with hj
   subst hj
   obtain ⟨e1,e2⟩:=Ty.as_some hz
   subst e1
   have e2:y=z:=e2
   subst e2
   cases b <;> exact h
  ·cases hj
 | .own et e xs,.own et' e' ys,r,cs,bs,hj,h=>by
  simp only [qc4.joinB] at hj
  split at hj
  ·rename_i het
   subst het
   split at hj
   ·rename_i z hz
    injection hj with hj
    subst hj
    obtain ⟨e1,e2⟩:=Ty.as_some hz
    injection e1 with e1
    subst e1
    have e2:ys=z:=e2
    subst e2
    cases b <;> exact h
   ·cases hj
  ·cases hj
 | .pair c d,.pair c' d',r,cs,bs,hj,h=>by
  simp only [qc4.joinB] at hj
  split at hj
  ·rename_i r1 r2 h1 h2
   split at hj
   ·injection hj with hj
    subst hj
    cases b
    ·obtain ⟨c1,c2,b1,b2,k1,k2,k3,k4⟩:=h
     exact ⟨c1,c2,b1,b2,k1,k2,qde false h1 k3,qde false h2 k4⟩
    ·obtain ⟨c1,c2,b1,b2,k1,k2,k3,k4⟩:=h
     exact ⟨c1,c2,b1,b2,k1,k2,qde true h1 k3,qde true h2 k4⟩
   ·cases hj
  ·cases hj
 | .hole n,.hole m,r,cs,bs,hj,h=>by
  simp only [qc4.joinB] at hj
  split at hj
  ·rename_i hnm
   injection hj with hj
   subst hj; subst hnm
   cases b <;> exact h
  ·cases hj
 | .val _ _,.own _ _ _,_,_,_,hj,_=>by cases hj
 | .val _ _,.pair _ _,_,_,_,hj,_=>by cases hj
 | .val _ _,.hole _,_,_,_,hj,_=>by cases hj
 | .own _ _ _,.val _ _,_,_,_,hj,_=>by cases hj
 | .own _ _ _,.pair _ _,_,_,_,hj,_=>by cases hj
 | .own _ _ _,.hole _,_,_,_,hj,_=>by cases hj
 | .pair _ _,.val _ _,_,_,_,hj,_=>by cases hj
 | .pair _ _,.own _ _ _,_,_,_,hj,_=>by cases hj
 | .pair _ _,.hole _,_,_,_,hj,_=>by cases hj
 | .hole _,.val _ _,_,_,_,hj,_=>by cases hj
 | .hole _,.own _ _ _,_,_,_,hj,_=>by cases hj
 | .hole _,.pair _ _,_,_,_,hj,_=>by cases hj
theorem qhE {X:Sit} (b:Bool) {x y:AV} {v:Value} {bs:List Nat} (h:qL X (bif b then x else y) v bs):qL X (qc4 b x y) v bs∧(qc4 b x y).mentions=[]:=by
 unfold qc4
 split
 ·rename_i t x u y
  split
  ·rename_i z hz
   obtain ⟨e1,e2⟩:=Ty.as_some hz
   subst e1
   have e2:y=z:=e2
   subst e2
   refine ⟨?_,rfl⟩
   cases b <;> exact h
  ·exact ⟨trivial,rfl⟩
 ·rename_i et e xs et' e' ys
  split
  ·rename_i het
   subst het
   split
   ·rename_i z hz
    obtain ⟨e1,e2⟩:=Ty.as_some hz
    injection e1 with e1
    subst e1
    have e2:ys=z:=e2
    subst e2
    refine ⟨?_,rfl⟩
    cases b <;> exact h
   ·exact ⟨trivial,rfl⟩
  ·exact ⟨trivial,rfl⟩
 ·rename_i c d
  split
  ·rename_i r hr
   refine ⟨?_,rfl⟩
   cases b
   ·obtain ⟨b0,cs,bs',te,k1,k2,k3,k4⟩:=h
    exact ⟨b0,cs,bs',te,k1,k2,qde false hr k3,k4⟩
   ·obtain ⟨b0,cs,bs',te,k1,k2,k3,k4⟩:=h
    exact ⟨b0,cs,bs',te,k1,k2,qde true hr k3,k4⟩
  ·exact ⟨trivial,rfl⟩
 ·rename_i k t xs k' t' ys
  split
  ·rename_i het
   obtain ⟨e1,e2⟩:=het
   subst e1
   subst e2
   refine ⟨?_,rfl⟩
   cases b <;> exact h
  ·exact ⟨trivial,rfl⟩
 ·rename_i et e et' e' ys
  split
  ·rename_i het
   subst het
   split
   ·rename_i z hz
    obtain ⟨e1,e2⟩:=Ty.as_some hz
    injection e1 with e1
    subst e1
    have e2:ys=z:=e2
    subst e2
    refine ⟨?_,rfl⟩
    cases b
    ·exact h
    ·obtain ⟨rfl,rfl⟩:=h
     exact qA.nil_ _ _ _ _
   ·exact ⟨trivial,rfl⟩
  ·exact ⟨trivial,rfl⟩
 ·rename_i et e xs et' e'
  split
  ·rename_i het
   obtain ⟨rfl,rfl⟩:=het
   refine ⟨?_,rfl⟩
   cases b
   ·obtain ⟨rfl,rfl⟩:=h
    exact qA.nil_ _ _ _ _
   ·exact h
  ·exact ⟨trivial,rfl⟩
 ·rename_i et e et' e'
  split
  ·rename_i het
   obtain ⟨rfl,rfl⟩:=het
   refine ⟨?_,rfl⟩
   cases b <;> exact h
  ·exact ⟨trivial,rfl⟩
 ·rename_i e xs e' ys
  split
  ·rename_i z hz
   obtain ⟨e1,e2⟩:=Ty.as_some hz
   injection e1 with e1
   subst e1
   have e2:ys=z:=e2
   subst e2
   refine ⟨?_,rfl⟩
   cases b <;> exact h
  ·exact ⟨trivial,rfl⟩
 ·rename_i e xs e' ys
  split
  ·rename_i z hz
   obtain ⟨e1,e2⟩:=Ty.as_some hz
   injection e1 with e1
   subst e1
   have e2:ys=z:=e2
   subst e2
   refine ⟨?_,rfl⟩
   cases b
   ·exact h
   ·exact ⟨h.1,h.2.1⟩
  ·exact ⟨trivial,rfl⟩
 ·rename_i e xs e' ys
  split
  ·rename_i z hz
   obtain ⟨e1,e2⟩:=Ty.as_some hz
   injection e1 with e1
   subst e1
   have e2:ys=z:=e2
   subst e2
   refine ⟨?_,rfl⟩
   cases b
   ·exact ⟨h.1,h.2.1⟩
   ·exact h
  ·exact ⟨trivial,rfl⟩
 ·exact ⟨trivial,rfl⟩
theorem BC.toVal_rep {F:Nat→Prop} :(t:Ty)→ {c:BC} → {x:t.den} → {cs:List Value} → {bs:List Nat} →c.toVal t=some x→qP w F c cs bs→qP w F (.val t x) cs bs
 |t,.val u y,x,cs,bs,hs,h=>by
  have hs:Ty.as (t:=u) t y=some x:=by cases t <;> exact hs
  exact ⟨h.1,h.2.as hs⟩
 | .pair a b,.pair c d,x,cs,bs,hs,h=>by
  simp only [BC.toVal] at hs
  split at hs
  ·rename_i y z h1 h2
   injection hs with hs
   subst hs
   obtain ⟨c1,c2,b1,b2,k1,k2,k3,k4⟩:=h
   have r1:=BC.toVal_rep a h1 k3
   have r2:=BC.toVal_rep b h2 k4
   exact ⟨by rw [k2,r1.1,r2.1]; rfl,c1,c2,k1,r1.2,r2.2⟩
  ·cases hs
 |t,.own _ _ _,x,cs,bs,hs,h=>by cases t <;> cases hs
 |t,.hole _,x,cs,bs,hs,h=>by cases t <;> cases hs
 | .int _,.pair _ _,x,cs,bs,hs,h=>by cases hs
 | .bool,.pair _ _,x,cs,bs,hs,h=>by cases hs
 | .str,.pair _ _,x,cs,bs,hs,h=>by cases hs
 | .unit,.pair _ _,x,cs,bs,hs,h=>by cases hs
 | .slice _,.pair _ _,x,cs,bs,hs,h=>by cases hs
 | .arr _ _,.pair _ _,x,cs,bs,hs,h=>by cases hs
theorem BC.toShape_rep {F:Nat→Prop} :(s:qaO)→ {c:BC} → {x:s.den} → {cs:List Value} → {bs:List Nat} →c.toShape s=some x→qP w F c cs bs→qP w F (s.un x) cs bs
 | .val t,c,x,cs,bs,hs,h=>by
  exact BC.toVal_rep t hs h
 | .own et e,.own et' e' xs,x,cs,bs,hs,h=>by
  simp only [BC.toShape] at hs
  split at hs
  ·rename_i het
   subst het
   obtain ⟨e1,e2⟩:=Ty.as_some hs
   injection e1 with e1
   subst e1
   have e2:xs=x:=e2
   subst e2
   exact h
  ·cases hs
 | .pair a b,.pair c d,x,cs,bs,hs,h=>by
  simp only [BC.toShape] at hs
  split at hs
  ·rename_i y z h1 h2
   injection hs with hs
   subst hs
   obtain ⟨c1,c2,b1,b2,k1,k2,k3,k4⟩:=h
   exact ⟨c1,c2,b1,b2,k1,k2,BC.toShape_rep a h1 k3,BC.toShape_rep b h2 k4⟩
  ·cases hs
 | .hole n,.hole m,x,cs,bs,hs,h=>by
  simp only [BC.toShape] at hs
  split at hs
  ·rename_i hnm
   subst hnm
   exact h
  ·cases hs
 | .own _ _,.val _ _,_,_,_,hs,_=>by cases hs
 | .own _ _,.pair _ _,_,_,_,hs,_=>by cases hs
 | .own _ _,.hole _,_,_,_,hs,_=>by cases hs
 | .pair _ _,.val _ _,_,_,_,hs,_=>by cases hs
 | .pair _ _,.own _ _ _,_,_,_,hs,_=>by cases hs
 | .pair _ _,.hole _,_,_,_,hs,_=>by cases hs
 | .hole _,.val _ _,_,_,_,hs,_=>by cases hs
 | .hole _,.own _ _ _,_,_,_,hs,_=>by cases hs
 | .hole _,.pair _ _,_,_,_,hs,_=>by cases hs
theorem AV.toShape_rep {X:Sit} (s:qbV) {av:AV} {x:s.den} {v:Value} {bs:List Nat} (hs:av.toShape s=some x) (h:qL X av v bs):qL X (s.un x) v bs∧(s.un x).mentions=[]:=by
 cases s with
 |val t=>
  cases av with
  |val u y=>exact ⟨⟨h.1,h.2.as hs⟩,rfl⟩
  |_=>cases hs
 |own et e=>
  cases av with
  |own et' e' xs=>
   simp only [AV.toShape] at hs
   split at hs
   ·rename_i het
    subst het
    obtain ⟨e1,e2⟩:=Ty.as_some hs
    injection e1 with e1
    subst e1
    have e2:xs=x:=e2
    subst e2
    exact ⟨h,rfl⟩
   ·cases hs
  |_=>cases hs
 |box b=>
  cases av with
  |box c=>
   obtain ⟨b0,cs,bs',te,k1,k2,k3,k4⟩:=h
   exact ⟨⟨b0,cs,bs',te,k1,k2,BC.toShape_rep b hs k3,k4⟩,rfl⟩
  |_=>cases hs
 |mp k t=>
  cases av with
  |mp k' t' xs=>
   simp only [AV.toShape] at hs
   split at hs
   ·rename_i het
    obtain ⟨e1,e2⟩:=het
    subst e1
    subst e2
    injection hs with hs
    subst hs
    exact ⟨h,rfl⟩
   ·cases hs
  |_=>cases hs
theorem qez (σ:St) (s:Nat) (e:Ent) (x:Nat):qb (σ.set s e) x=if x=s∧s<σ.length then e else qb σ x:=by
 unfold qb
 simp only [List.getD_eq_getElem?_getD,List.getElem?_set]
 by_cases hx:s=x
 ·subst hx
  by_cases hl:s<σ.length
  ·simp [hl]
  ·simp [hl]
 ·simp [hx]
  intro e1
  exact absurd e1.symm hx
theorem qhb:(wr:List Nat)→(σ:St)→(wr.foldl (fun σ s=>σ.set s ((qb σ s).1+1,.undef)) σ).length=σ.length∧
  ∀x,(x∈wr∧x<σ.length→(qb σ x).1<(qb (wr.foldl (fun σ s=>σ.set s ((qb σ s).1+1,.undef)) σ) x).1∧(qb (wr.foldl (fun σ s=>σ.set s ((qb σ s).1+1,.undef)) σ) x).2= .undef)∧
   (¬(x∈wr∧x<σ.length)→qb (wr.foldl (fun σ s=>σ.set s ((qb σ s).1+1,.undef)) σ) x=qb σ x)
 |[],σ=>⟨rfl,fun x=>⟨fun h=>(by cases h.1),fun _=>rfl⟩⟩
 |s::wr,σ=>by
  obtain ⟨h1,h2⟩:=qhb wr (σ.set s ((qb σ s).1+1,.undef))
  rw [List.foldl_cons]
  refine ⟨by rw [h1]; simp,fun x=> ?_⟩
  obtain ⟨k1,k2⟩:=h2 x
  rw [List.length_set] at k1 k2
  by_cases hx:x∈wr∧x<σ.length
  ·refine ⟨fun _=> ?_,fun hn=>absurd ⟨List.mem_cons_of_mem _ hx.1,hx.2⟩ hn⟩
   obtain ⟨g1,g2⟩:=k1 hx
   refine ⟨Nat.lt_of_le_of_lt ?_ g1,g2⟩
   rw [qez]
   split
   ·rename_i h; rw [h.1]; exact Nat.le_succ _
   ·exact Nat.le_refl _
  ·rw [k2 hx]
   rw [qez]
   by_cases hs:x=s∧s<σ.length
   ·rw [if_pos hs]
    refine ⟨fun _=>⟨by rw [hs.1]; exact Nat.lt_succ_self _,rfl⟩,fun hn=>absurd ⟨by rw [hs.1]; exact List.mem_cons_self,by rw [hs.1]; exact hs.2⟩ hn⟩
   ·rw [if_neg hs]
    refine ⟨fun hn=> ?_,fun _=>rfl⟩
    rcases List.mem_cons.1 hn.1 with rfl|hm
    ·exact absurd ⟨rfl,hn.2⟩ hs
    ·exact absurd ⟨hm,hn.2⟩ hx
theorem qgT:(l:List (Nat×qbV))→(x:liveDen l)→(σ:St)→(l.map (·.1)).Nodup→(qcW l x σ).length=σ.length∧(∀s,s∉l.map (·.1)→qb (qcW l x σ) s=qb σ s)∧
  ∀(τ:St),qho l τ=some x→∀s,s∈l.map (·.1)→s<σ.length→(qb (qcW l x σ) s).1=(qb σ s).1∧∀X v bs,qL X (qb τ s).2 v bs→qL X (qb (qcW l x σ) s).2 v bs∧(qb (qcW l x σ) s).2.mentions=[]
 |[],_,σ,_=>⟨rfl,fun _ _=>rfl,fun _ _ s hs=>by cases hs⟩
 |p::r,x,σ,hn=>by
  have hn:=List.nodup_cons.1 hn
  obtain ⟨h1,h2,h3⟩:=qgT r x.2 (σ.set p.1 ((qb σ p.1).1,p.2.un x.1)) hn.2
  refine ⟨by simp only [qcW]; rw [h1]; simp,fun s hs=> ?_,fun τ hp s hs hl=> ?_⟩
  ·have hs':s≠p.1∧s∉r.map (·.1):=by simpa using hs
   simp only [qcW]
   rw [h2 s hs'.2,qez,if_neg (fun h=>hs'.1 h.1)]
  ·simp only [qho] at hp
   split at hp
   case h_2=>cases hp
   rename_i y z e1 e2
   injection hp with hp
   subst hp
   simp only [qcW]
   by_cases hsp:s=p.1
   ·subst hsp
    rw [h2 _ hn.1,qez,if_pos ⟨rfl,hl⟩]
    exact ⟨rfl,fun X v bs h=>AV.toShape_rep p.2 e1 h⟩
   ·have hsr:s∈r.map (·.1):=by
     rcases List.mem_cons.1 hs with e|e
     ·exact absurd e hsp
     ·exact e
    obtain ⟨g1,g2⟩:=h3 τ e2 s hsr (by rw [List.length_set]; exact hl)
    rw [qez,if_neg (fun h=>hsp h.1)] at g1
    exact ⟨g1,g2⟩
def Fr (wr:List Nat) (σ σ':St):Prop:=σ'.length=σ.length∧∀s,s∉wr→qb σ' s=qb σ s
theorem qgK {A:qd5} (hlive:∀q∈A.live,q.1∈A.wr) (hn:(A.live.map (·.1)).Nodup) (x:liveDen A.live):Fr A.wr σ (qbr A σ x):=by
 obtain ⟨h1,h2⟩:=qhb A.wr σ
 obtain ⟨k1,k2,_⟩:=qgT A.live x (A.wr.foldl (fun σ s=>σ.set s ((qb σ s).1+1,.undef)) σ) hn
 refine ⟨k1.trans h1,fun s hs=> ?_⟩
 rw [qbr,k2 s fun hm=>by
  obtain ⟨q,hq,e⟩:=List.mem_map.1 hm
  exact hs (e ▸ hlive q hq)]
 exact (h2 s).2 fun h=>hs h.1
theorem qv.head (h:qv C τ tm w own) {A:qd5} (hlive:∀q∈A.live,q.1∈A.wr) (hn:(A.live.map (·.1)).Nodup) (hwf:∀s,∀m∈(qb σ s).2.mentions,m.2≤(qb σ m.1).1) (hfr:Fr A.wr σ τ) {x:liveDen A.live} (hx:qho A.live τ=some x):
  qv C (qbr A σ x) tm w own:=by
 obtain ⟨h1,h2⟩:=qhb A.wr σ
 obtain ⟨k1,k2,k3⟩:=qgT A.live x (A.wr.foldl (fun σ s=>σ.set s ((qb σ s).1+1,.undef)) σ) hn
 have hver:∀s,s∈A.wr→s<σ.length→(qb σ s).1<(qb (qbr A σ x) s).1:=by
  intro s hs hl
  by_cases hm:s∈A.live.map (·.1)
  ·rw [qbr,(k3 τ hx s hm (by rw [h1]; exact hl)).1]
   exact ((h2 s).1 ⟨hs,hl⟩).1
  ·rw [qbr,k2 s hm]
   exact ((h2 s).1 ⟨hs,hl⟩).1
 refine h.retag ((k1.trans h1).trans hfr.1.symm) (fun s=>s∈A.wr∧s<σ.length) (fun s hs=> ?_) (fun s hs=> ?_) (fun s m hs hm hb=> ?_)
 ·by_cases hw:s∈A.wr
  ·have hl:¬s<σ.length:=fun hl=>hs ⟨hw,hl⟩
   have e1:qb (qbr A σ x) s=(0,.undef):=by simp [qb,List.getD,List.getElem?_eq_none (show (qbr A σ x).length≤s by rw [qbr,k1,h1]; omega)]
   have e2:qb τ s=(0,.undef):=by simp [qb,List.getD,List.getElem?_eq_none (show τ.length≤s by rw [hfr.1]; omega)]
   rw [e1,e2]
  ·rw [(qgK hlive hn x).2 s hw,hfr.2 s hw]
 ·by_cases hm:s∈A.live.map (·.1)
  ·obtain ⟨_,g⟩:=k3 τ hx s hm (by rw [h1]; exact hs.2)
   refine ⟨?_,fun v hv=>(g _ v _ hv).1⟩
   have hat:=h.at_ s
   exact (g _ _ _ hat).2
  ·rw [qbr,k2 s hm,((h2 s).1 hs).2]
   exact ⟨rfl,fun _ _=>trivial⟩
 ·have e:qb τ s=qb σ s:=by
   by_cases hw:s∈A.wr
   ·have hl:¬s<σ.length:=fun hl=>hs ⟨hw,hl⟩
    have e1:qb σ s=(0,.undef):=by simp [qb,List.getD,List.getElem?_eq_none (show σ.length≤s by omega)]
    have e2:qb τ s=(0,.undef):=by simp [qb,List.getD,List.getElem?_eq_none (show τ.length≤s by rw [hfr.1]; omega)]
    rw [e1,e2]
   ·exact hfr.2 s hw
  rw [e] at hm
  exact Nat.lt_of_le_of_lt (hwf s m hm) (hver m.1 hb.1 hb.2)
end
end Go.Vi
namespace Go.Vi
open Go.RowKit
def qaK (S:Nat→Bool):Nat→List qcc→St→St
 |_,[],σ=>σ
 |i,f::r,σ=>qaK S (i+1) r (if S i then qa σ f.us else σ)
def qb8 (l:List qcc) (σ:St):St:=l.foldl (fun σ f=>qa σ f.us) σ
theorem qax (S:Nat→Bool):(l:List qcc)→(i:Nat)→(σ:St)→(qaK S i l σ).length=σ.length
 |[],_,_=>rfl
 |f::r,i,σ=>by
  simp only [qaK]
  rw [qax S r]
  split
  ·rw [qj]
  ·rfl
theorem qjW {σ τ:St} {u:U} {s:Nat} (hl:σ.length=τ.length) (h:qb σ s=qb τ s):qb (qr σ u) s=qb (qr τ u) s:=by
 by_cases hs:s=u.s
 ·subst hs
  by_cases hlt:u.s<σ.length
  ·rw [qk σ u hlt,qk τ u (by omega),h]
  ·have e1:qr σ u=σ:=by simp only [qr]; exact List.set_eq_of_length_le (by omega)
   have e2:qr τ u=τ:=by simp only [qr]; exact List.set_eq_of_length_le (by omega)
   rw [e1,e2,h]
 ·rw [qc _ _ hs,qc _ _ hs,h]
theorem qdB:(us:List U)→ {σ τ:St} → {s:Nat} →σ.length=τ.length→qb σ s=qb τ s→qb (qa σ us) s=qb (qa τ us) s
 |[],_,_,_,_,h=>h
 |u::us,σ,τ,s,hl,h=>qdB us (σ:=qr σ u) (τ:=qr τ u) (by rw [qD,qD,hl]) (qjW hl h)
theorem qdy:(us:List U)→ {σ:St} → {s:Nat} →s∉us.map (·.s)→qb (qa σ us) s=qb σ s
 |[],_,_,_=>rfl
 |u::us,σ,s,h=>by
  simp only [List.map_cons,List.mem_cons,not_or] at h
  exact (qdy us (σ:=qr σ u) h.2).trans (qc _ _ h.1)
theorem qbK {S S':Nat→Bool} {s:Nat} :(l:List qcc)→(i:Nat)→ {σ τ:St} →σ.length=τ.length→qb σ s=qb τ s→(∀k f,l[k]? =some f→s∈f.wr→S (i+k)=S' (i+k))→qb (qaK S i l σ) s=qb (qaK S' i l τ) s
 |[],_,_,_,_,h,_=>h
 |f::r,i,σ,τ,hl,h,hS=>by
  simp only [qaK]
  refine qbK r (i+1) ?_ ?_ fun k f' hk hs=>by
   have:=hS (k+1) f' (by simpa using hk) hs
   rwa [show i+(k+1)=i+1+k by omega] at this
  ·split <;> split <;> simp only [qj,hl]
  ·by_cases hs:s∈f.wr
   ·have:=hS 0 f rfl hs
    rw [Nat.add_zero] at this
    rw [←this]
    split
    ·exact qdB _ hl h
    ·exact h
   ·have n1:∀ρ:St,qb (qa ρ f.us) s=qb ρ s:=fun ρ=>qdy f.us hs
    split <;> split <;> simp only [n1,h]
theorem qiE {σ τ:St} (hl:σ.length=τ.length) (h:∀s,qb σ s=qb τ s):σ=τ:=by
 apply List.ext_getElem?
 intro s
 by_cases hs:s<σ.length
 ·have:=h s
  simp only [qb,List.getD_eq_getElem?_getD,List.getElem?_eq_getElem hs,List.getElem?_eq_getElem (show s<τ.length by omega),Option.getD_some] at this
  rw [List.getElem?_eq_getElem hs,List.getElem?_eq_getElem (by omega),this]
 ·rw [List.getElem?_eq_none (by omega),List.getElem?_eq_none (by omega)]
theorem qeZ:(l:List qcc)→(i:Nat)→(σ:St)→qaK (fun _=>false) i l σ=σ
 |[],_,_=>rfl
 |f::r,i,σ=>by simp only [qaK,Bool.false_eq_true,if_false]; exact qeZ r (i+1) σ
theorem qbi:(l:List qcc)→(i m:Nat)→(σ:St)→qaK (fun k=>decide (k<i+m)) i l σ=qb8 (l.take m) σ
 |[],i,m,σ=>by simp [qaK,qb8]
 |f::r,i,0,σ=>by
  have:qaK (fun k=>decide (k<i+0)) i (f::r) σ=qaK (fun _=>false) i (f::r) σ:=by
   apply qiE
   ·rw [qax,qax]
   ·intro s
    exact qbK _ _ rfl rfl fun k f _ _=>by simp
  rw [this,qeZ]
  rfl
 |f::r,i,m+1,σ=>by
  simp only [qaK]
  rw [if_pos (by simp)]
  have:=qbi r (i+1) m (qa σ f.us)
  rw [show i+1+m=i+(m+1) by omega] at this
  rw [this]
  rfl
theorem Q.run_congr {α:Type} {lk lk':Nat→Ent} :(q:Q α)→(∀s∈q.log lk,lk' s=lk s)→q.run lk'=q.run lk
 | .ret _,_=>rfl
 | .fail,_=>rfl
 | .get s k,h=>by
  have h0:=h s List.mem_cons_self
  simp only [Q.run,h0]
  exact Q.run_congr (k (lk s)) fun s' hs'=>h s' (List.mem_cons_of_mem _ hs')
def qlU (E:Env) (ops:Array Oper) (σ:St) (l:List Oper) (fl:List qcc) (c:List Bool):Prop:=
 fl.length=l.length∧∀k o ft,l[k]? =some o→fl[k]? =some ft→∃g f,qbv ops o=some g∧(qcg E g o).run (qb (qb8 (fl.take k) σ))=some f∧ft= { rd:=(qcg E g o).log (qb (qb8 (fl.take k) σ)),us:=f.upd } ∧(∀u∈f.upd,u.s<σ.length)∧∀b∈f.chk,b∈c
theorem qf4 {E:Env} {wr:List Nat} {ops:Array Oper} :(l:List Oper)→ {σ σ':St} → {c c':List Bool} → {fs fs':List qcc} →qaM E wr ops l σ c fs=some (σ',c',fs')→
  ∃fl,fs'=fl.reverse++fs∧qlU E ops σ l fl c'∧σ'=qb8 fl σ∧∀b∈c,b∈c'
 |[],σ,σ',c,c',fs,fs',he=>by
  simp only [qaM,Option.some.injEq,Prod.mk.injEq] at he
  obtain ⟨rfl,rfl,rfl⟩:=he
  exact ⟨[],rfl,⟨rfl,fun k o ft h=>by simp at h⟩,rfl,fun b h=>h⟩
 |o::r,σ,σ',c,c',fs,fs',he=>by
  simp only [qaM] at he
  split at he
  ·cases he
  rename_i g hg
  split at he
  ·cases he
  rename_i f hf
  split at he
  case isFalse=>cases he
  rename_i hu
  obtain ⟨fl,h1,⟨h2,h3⟩,h4,h5⟩:=qf4 r he
  refine ⟨{ rd:=(qcg E g o).log (qb σ),us:=f.upd } ::fl,by rw [h1]; simp,⟨by simp [h2],fun k o' ft hk hft=> ?_⟩,by rw [h4]; rfl,fun b hb=>h5 b (List.mem_append_left _ hb)⟩
  cases k with
  |zero=>
   simp at hk hft
   subst hk; subst hft
   refine ⟨g,f,hg,hf,rfl,fun u hm=> ?_,fun b hb=>h5 b (List.mem_append_right _ hb)⟩
   have:=List.all_eq_true.1 hu u hm
   simp at this
   exact this.2
  |succ k=>
   obtain ⟨g',f',k1,k2,k3,k4,k5⟩:=h3 k o' ft (by simpa using hk) (by simpa using hft)
   exact ⟨g',f',k1,k2,k3,fun u hm=>by have:=k4 u hm; rwa [qj] at this,k5⟩
theorem qf3 {ms:List Nat} {j:Nat} :(es:List Nat)→(m:Nat)→(es.foldl (fun m j=>m|||(1 <<< j)|||ms.getD j 0) m).testBit j=true→m.testBit j=true∨j∈es∨∃k∈es,(ms.getD k 0).testBit j=true
 |[],m,h=> .inl h
 |e::es,m,h=>by
  rcases qf3 es _ h with h|h|⟨k,hk,h⟩
  ·simp only [Nat.testBit_or,Bool.or_eq_true] at h
   rcases h with (h|h)|h
   ·exact .inl h
   ·refine .inr (.inl ?_)
    rw [Nat.one_shiftLeft,Nat.testBit_two_pow] at h
    have:e=j:=by simpa using h
    rw [this]
    exact List.mem_cons_self
   ·exact .inr (.inr ⟨e,List.mem_cons_self,h⟩)
  ·exact .inr (.inl (List.mem_cons_of_mem _ h))
  ·exact .inr (.inr ⟨k,List.mem_cons_of_mem _ hk,h⟩)
theorem qhP {m:Nat} {f:qcc} :(l:List qcc)→(j:Nat)→qio m f j l=true→∀k g,l[k]? =some g→m.testBit (j+k)=true∨qcu f g=true
 |[],_,_,k,g,h=>by simp at h
 |x::r,j,hp,k,g,h=>by
  simp only [qio,Bool.and_eq_true,Bool.or_eq_true] at hp
  cases k with
  |zero=>simp at h; subst h; exact hp.1
  |succ k=>
   have:=qhP r (j+1) hp.2 k g (by simpa using h)
   rwa [show j+1+k=j+(k+1) by omega] at this
theorem qjN:(os:List Oper)→(fs:List qcc)→(ms:List Nat)→(done:List qcc)→ms.length=done.length→qeP os fs ms done=true→
  ∃M:List Nat,M.length=os.length∧fs.length=os.length∧∀k o f,os[k]? =some o→fs[k]? =some f→(∀j∈qaD o,j<ms.length+k)∧(ms++M).getD (ms.length+k) 0=qes ((ms++M).take (ms.length+k)) (qaD o)∧
   ∀j g,j<ms.length+k→(done++fs)[j]? =some g→((ms++M).getD (ms.length+k) 0).testBit j=true∨qcu f g=true
 |[],[],_,_,_,_=>⟨[],rfl,rfl,fun k o f h=>by simp at h⟩
 |o::os,f::fs,ms,done,hl,h=>by
  simp only [qeP,Bool.and_eq_true] at h
  obtain ⟨h1,h2,h3⟩:=h
  obtain ⟨M,k1,k2,k3⟩:=qjN os fs _ _ (by simp [hl]) h3
  refine ⟨qes ms (qaD o)::M,by simp [k1],by simp [k2],fun k o' f' ho hf=> ?_⟩
  have e1:ms++qes ms (qaD o)::M=(ms++[qes ms (qaD o)])++M:=by simp
  have e2:done++f::fs=(done++[f])++fs:=by simp
  cases k with
  |zero=>
   simp at ho hf
   subst ho; subst hf
   refine ⟨fun j hj=>by have:=List.all_eq_true.1 h1 j hj; simpa using this,?_,fun j g hj hg=> ?_⟩
   ·rw [Nat.add_zero,List.take_left' rfl]
    simp [List.getD]
   ·rw [Nat.add_zero] at hj⊢
    have hg':done[j]? =some g:=by rwa [List.getElem?_append_left (by omega)] at hg
    have:=qhP done 0 h2 j g hg'
    rw [Nat.zero_add] at this
    have e:(ms++qes ms (qaD o)::M).getD ms.length 0=qes ms (qaD o):=by simp [List.getD]
    rw [e]
    exact this
  |succ k=>
   obtain ⟨q1,q2,q3⟩:=k3 k o' f' (by simpa using ho) (by simpa using hf)
   have e3:(ms++[qes ms (qaD o)]).length+k=ms.length+(k+1):=by simp; omega
   rw [e3] at q1 q2 q3
   rw [e1,e2]
   exact ⟨q1,q2,q3⟩
 |[],_::_,_,_,_,h=>by cases h
 |_::_,[],_,_,_,h=>by cases h
def qgx (ops:Array Oper) (S:Nat→Bool):Prop:=∀i o,ops[i]? =some o→S i=true→∀j∈qaD o,S j=true
theorem qhV {ops:Array Oper} {fl:List qcc} (h:qeP ops.toList fl [] []=true):fl.length=ops.size∧∃M:List Nat,∀k o f,ops[k]? =some o→fl[k]? =some f→(∀j∈qaD o,j<k)∧M.getD k 0=qes (M.take k) (qaD o)∧∀j g,j<k→fl[j]? =some g→(M.getD k 0).testBit j=true∨qcu f g=true:=by
 obtain ⟨M,h1,h2,h3⟩:=qjN ops.toList fl [] [] rfl h
 refine ⟨by simpa using h2,M,fun k o f ho hf=> ?_⟩
 have:=h3 k o f (by simpa using ho) hf
 simpa using this
theorem qe3 {ops:Array Oper} {fl:List qcc} {M:List Nat} (hlen:fl.length=ops.size) (hM:∀k o f,ops[k]? =some o→fl[k]? =some f→(∀j∈qaD o,j<k)∧M.getD k 0=qes (M.take k) (qaD o)∧∀j g,j<k→fl[j]? =some g→(M.getD k 0).testBit j=true∨qcu f g=true)
  {S:Nat→Bool} (hS:qgx ops S):∀(n k:Nat) (o:Oper),k<n→ops[k]? =some o→(∀j∈qaD o,S j=true)→∀j,(M.getD k 0).testBit j=true→S j=true
 |0,k,o,h,_,_,_,_=>by omega
 |n+1,k,o,hk,ho,he,j,hj=>by
  have hks:k<ops.size:=(Array.getElem?_eq_some_iff.1 ho).1
  obtain ⟨q1,q2,_⟩:=hM k o _ ho (List.getElem?_eq_getElem (by omega))
  rw [q2] at hj
  rcases qf3 _ _ hj with h|h|⟨k',hk',h⟩
  ·simp at h
  ·exact he j h
  ·have hlt:=q1 k' hk'
   have ho':ops[k']? =some ops[k']:=Array.getElem?_eq_getElem (by omega)
   have e:(M.take k).getD k' 0=M.getD k' 0:=by
    simp only [List.getD_eq_getElem?_getD,List.getElem?_take,if_pos hlt]
   rw [e] at h
   exact qe3 hlen hM hS n k' _ (by omega) ho' (hS k' _ ho' (he k' hk')) j h
theorem qkG {f g:qcc} (h:qcu f g=true) {s:Nat} :(s∈f.wr→s∉g.rd∧s∉g.wr)∧(s∈g.wr→s∉f.rd):=by
 simp only [qcu,Bool.and_eq_true] at h
 have h1:=qbp h.1
 have h2:=qbp h.2
 exact ⟨fun hs=>⟨fun hr=>h1 s hs (List.mem_append_left _ hr),fun hw=>h1 s hs (List.mem_append_right _ hw)⟩,fun hs=>h2 s hs⟩
theorem qjV {ops:Array Oper} {fl:List qcc} (h:qeP ops.toList fl [] []=true) {S:Nat→Bool} (hS:qgx ops S) {i:Nat} {o:Oper} {f:qcc} (ho:ops[i]? =some o) (hf:fl[i]? =some f) (hn:S i=false) (he:∀j∈qaD o,S j=true)
  {s:Nat} (hs:s∈f.rd∨s∈f.wr):∀j g,fl[j]? =some g→s∈g.wr→S j=decide (j<i):=by
 obtain ⟨hlen,M,hM⟩:=qhV h
 intro j g hg hw
 have hjs:j<ops.size:=by
  have:=(List.getElem?_eq_some_iff.1 hg).1
  omega
 have hoj:ops[j]? =some ops[j]:=Array.getElem?_eq_getElem hjs
 rcases Nat.lt_trichotomy j i with hlt|heq|hgt
 ·rw [decide_eq_true hlt]
  cases hSj:S j with
  |true=>rfl
  |false=>
   rcases (hM i o f ho hf).2.2 j g hlt hg with hb|hb
   ·have:=qe3 hlen hM hS (i+1) i o (by omega) ho he j hb
    rw [hSj] at this
    cases this
   ·obtain ⟨n1,n2⟩:=qkG hb (s:=s)
    rcases hs with hs|hs
    ·exact absurd hs (n2 hw)
    ·exact absurd hw (n1 hs).2
 ·subst heq
  rw [hn]
  simp
 ·rw [decide_eq_false (by omega)]
  cases hSj:S j with
  |false=>rfl
  |true=>
   rcases (hM j _ g hoj hg).2.2 i f hgt hf with hb|hb
   ·have:=qe3 hlen hM hS (j+1) j _ (by omega) hoj (hS j _ hoj hSj) i hb
    rw [hn] at this
    cases this
   ·obtain ⟨n1,n2⟩:=qkG hb (s:=s)
    rcases hs with hs|hs
    ·exact absurd hs (n1 hw).1
    ·exact absurd hs (n1 hw).2
theorem qhL {ops:Array Oper} {fl:List qcc} {σ:St} (h:qeP ops.toList fl [] []=true) {S:Nat→Bool} (hS:qgx ops S) {i:Nat} {o:Oper} {f:qcc} (ho:ops[i]? =some o) (hf:fl[i]? =some f) (hn:S i=false) (he:∀j∈qaD o,S j=true)
  {s:Nat} (hs:s∈f.rd∨s∈f.wr):qb (qaK S 0 fl σ) s=qb (qb8 (fl.take i) σ) s:=by
 have hb:=qbi fl 0 i σ
 rw [Nat.zero_add] at hb
 rw [←hb]
 exact qbK fl 0 rfl rfl fun k g hg hw=>by
  rw [Nat.zero_add]
  exact qjV h hS ho hf hn he hs k g hg hw
theorem qka {fl:List qcc} {i:Nat} {f:qcc} (hf:fl[i]? =some f) (σ:St):qb8 (fl.take (i+1)) σ=qa (qb8 (fl.take i) σ) f.us:=by
 rw [List.take_add_one,hf]
 simp [qb8,List.foldl_append]
theorem qkd {ops:Array Oper} {fl:List qcc} {σ:St} (h:qeP ops.toList fl [] []=true) {S S':Nat→Bool} (hS:qgx ops S) {i:Nat} {o:Oper} {f:qcc} (ho:ops[i]? =some o) (hf:fl[i]? =some f) (hn:S i=false) (he:∀j∈qaD o,S j=true)
  (hS1:S' i=true) (hS2:∀j,j≠i→S' j=S j):qaK S' 0 fl σ=qa (qaK S 0 fl σ) f.us:=by
 apply qiE
 ·rw [qj,qax,qax]
 ·intro s
  by_cases hs:s∈f.wr
  ·have h1:qb (qaK S' 0 fl σ) s=qb (qb8 (fl.take (i+1)) σ) s:=by
    have hb:=qbi fl 0 (i+1) σ
    rw [Nat.zero_add] at hb
    rw [←hb]
    refine qbK fl 0 rfl rfl fun k g hg hw=> ?_
    rw [Nat.zero_add]
    by_cases hk:k=i
    ·subst hk
     rw [hS1]
     simp
    ·rw [hS2 k hk,qjV h hS ho hf hn he (.inr hs) k g hg hw]
     by_cases hlt:k<i
     ·rw [decide_eq_true hlt,decide_eq_true (by omega)]
     ·rw [decide_eq_false hlt,decide_eq_false (by omega)]
   rw [h1,qka hf]
   refine (qdB _ ?_ (qhL h hS ho hf hn he (.inr hs))).symm
   rw [qax]
   have hb:=qbi fl 0 i σ
   rw [←hb,qax]
  ·rw [qdy _ hs]
   refine qbK fl 0 rfl rfl fun k g hg hw=> ?_
   rw [Nat.zero_add]
   refine hS2 k fun e=> ?_
   subst e
   rw [hf] at hg
   injection hg with hg
   subst hg
   exact hs hw
theorem qeS {ops:Array Oper} {listed:Array Bool} {i:Nat} (h:i∈Region.ready .any ops listed):i<ops.size∧listed.getD i true=false∧∃o,ops[i]? =some o∧∀j∈qaD o,listed.getD j false=true:=by
 simp only [Region.ready,List.mem_filter,List.mem_range,Bool.and_eq_true,Bool.not_eq_true'] at h
 obtain ⟨h1,h2,h3⟩:=h
 have ho:ops[i]? =some ops[i]:=Array.getElem?_eq_getElem h1
 refine ⟨h1,h2,_,ho,fun j hj=> ?_⟩
 rw [ho] at h3
 simp only [Option.map_some,Option.getD_some] at h3
 rw [←Array.all_toList,List.all_eq_true] at h3
 simp only [qaD,List.mem_map,List.mem_filter] at hj
 obtain ⟨e,⟨he,hb⟩,rfl⟩:=hj
 have:=h3 e he
 rw [hb] at this
 simpa using this
theorem qhA {ops:Array Oper} {listed:Array Bool} {i:Nat} {o:Oper} (ho:ops[i]? =some o) (hl:listed.getD i true=false) (he:∀j∈qaD o,listed.getD j false=true):i∈Region.ready .any ops listed:=by
 simp only [Region.ready,List.mem_filter,List.mem_range,Bool.and_eq_true,Bool.not_eq_true']
 refine ⟨(Array.getElem?_eq_some_iff.1 ho).1,hl,?_⟩
 rw [ho]
 simp only [Option.map_some,Option.getD_some]
 rw [←Array.all_toList,List.all_eq_true]
 intro e hm
 by_cases hb:Region.binds .any e=true
 ·rw [he e.on (List.mem_map.2 ⟨e,List.mem_filter.2 ⟨hm,hb⟩,rfl⟩)]
  simp
 ·simp [hb]
theorem qgC (S:Nat→Bool):(l l':List qcc)→l.map (·.us)=l'.map (·.us)→∀i σ,qaK S i l σ=qaK S i l' σ
 |[],[],_,_,_=>rfl
 |[],_::_,h,_,_=>by cases h
 |_::_,[],h,_,_=>by cases h
 |f::l,f'::l',h,i,σ=>by
  simp only [List.map_cons,List.cons.injEq] at h
  simp only [qaK,h.1]
  exact qgC S l l' h.2 _ _
theorem qgL:(l l':List qcc)→l.map (·.us)=l'.map (·.us)→∀σ,qb8 l σ=qb8 l' σ
 |[],[],_,_=>rfl
 |[],_::_,h,_=>by cases h
 |_::_,[],h,_=>by cases h
 |f::l,f'::l',h,σ=>by
  simp only [List.map_cons,List.cons.injEq] at h
  simp only [qb8,List.foldl_cons,h.1]
  exact qgL l l' h.2 _
theorem qjt (pins:List Nat) (σ:St) (fl:List qcc):(os:List Oper)→(fs:List qcc)→fs.length=os.length→(qfl pins σ fl os fs).map (·.us)=fs.map (·.us)
 |[],[],_=>rfl
 |[],_::_,h=>by cases h
 |_::_,[],h=>by cases h
 |o::os,f::fs,h=>by
  simp only [qfl,List.map_cons,qjt pins σ fl os fs (by simpa using h)]
  congr 1
  split
  ·split <;> rfl
  ·rfl
theorem qjw (pins:List Nat) (σ:St) (fl:List qcc):(os:List Oper)→(fs:List qcc)→fs.length=os.length→∀(i:Nat) (o:Oper) (f f':qcc),os[i]? =some o→fs[i]? =some f→(qfl pins σ fl os fs)[i]? =some f'→f'.rd=f.rd∨∃s,qdE o=some s∧(qlb σ fl s||qiI pins σ fl s)=true
 |[],_,_,i,o,f,f',h,_,_=>by simp at h
 |_::_,[],h,_,_,_,_,_,_,_=>by cases h
 |o'::os,f0::fs,h,i,o,f,f',h1,h2,h3=>by
  cases i with
  |zero=>
   simp only [qfl,List.getElem?_cons_zero,Option.some.injEq] at h1 h2 h3
   subst h1; subst h2; subst h3
   split
   ·rename_i s hs
    split
    ·rename_i hq
     exact .inr ⟨s,hs,hq⟩
    ·exact .inl rfl
   ·exact .inl rfl
  |succ i=>
   simp only [qfl,List.getElem?_cons_succ] at h1 h2 h3
   exact qjw pins σ fl os fs (by simpa using h) i o f f' h1 h2 h3
theorem qfT {s:Nat} :(us:List U)→ {σ:St} →qc0 (qb σ s).2=true→us.all (fun u=>u.s != s||(!u.bump&&qc0 u.a))=true→(qb (qa σ us) s).1=(qb σ s).1∧qc0 (qb (qa σ us) s).2=true
 |[],_,h,_=>⟨rfl,h⟩
 |u::us,σ,h,hu=>by
  simp only [List.all_cons,Bool.and_eq_true] at hu
  have key:(qb (qr σ u) s).1=(qb σ s).1∧qc0 (qb (qr σ u) s).2=true:=by
   by_cases hs:s=u.s
   ·by_cases hlt:u.s<σ.length
    ·have h1:=hu.1
     simp only [hs,bne_self_eq_false,Bool.false_or,Bool.and_eq_true,Bool.not_eq_true'] at h1
     rw [hs,qk σ u hlt,h1.1]
     exact ⟨rfl,h1.2⟩
    ·have e1:qr σ u=σ:=by simp only [qr]; exact List.set_eq_of_length_le (by omega)
     rw [e1]
     exact ⟨rfl,h⟩
   ·rw [qc _ _ hs]
    exact ⟨rfl,h⟩
  obtain ⟨k1,k2⟩:=qfT us (σ:=qr σ u) key.2 hu.2
  exact ⟨k1.trans key.1,k2⟩
theorem qdI {S:Nat→Bool} {s:Nat} :(l:List qcc)→(i:Nat)→ {σ:St} →qc0 (qb σ s).2=true→l.all (fun f=>f.us.all (fun u=>u.s != s||(!u.bump&&qc0 u.a)))=true→(qb (qaK S i l σ) s).1=(qb σ s).1∧qc0 (qb (qaK S i l σ) s).2=true
 |[],_,_,h,_=>⟨rfl,h⟩
 |f::l,i,σ,h,hl=>by
  simp only [List.all_cons,Bool.and_eq_true] at hl
  simp only [qaK]
  split
  ·obtain ⟨k1,k2⟩:=qfT f.us h hl.1
   obtain ⟨k3,k4⟩:=qdI l (i+1) k2 hl.2
   exact ⟨k3.trans k1,k4⟩
  ·exact qdI l (i+1) h hl.2
theorem qmj {E:Env} {o:Oper} {s:Nat} (ho:qdE o=some s) {lk lk':Nat→Ent} (h1:qc0 (lk s).2=true) (h2:qc0 (lk' s).2=true) (h3:(lk' s).1=(lk s).1):(qcg E none o).run lk'=(qcg E none o).run lk:=by
 unfold qdE at ho
 split at ho
 case h_2=>cases ho
 rename_i s' hg hop
 injection ho with ho
 subst ho
 cases ha:lk s' with
 |mk v a=>
  cases ha':lk' s' with
  |mk v' a'=>
   rw [ha] at h1 h3
   rw [ha'] at h2 h3
   simp only at h1 h2 h3
   subst h3
   have ev:∀ {b:AV} {lk0:Nat→Ent},lk0 s'=(v',b)→qc0 b=true→(qbN E [] o).run lk0=some ⟨qaq o (.ref s' v'),[]⟩:=fun {b lk0} hb h0=>by
    unfold qc0 at h0
    split at h0
    ·simp only [qbN,hop,opd,Q.bind,Q.run,hb,qan,qi8,Bool.false_eq_true,if_false,okE]
    ·simp only [qbN,hop,opd,Q.bind,Q.run,hb,qan,qi8,Bool.false_eq_true,if_false,okE]
    ·cases h0
   simp only [qcg,Q.run_bind,ev ha h1,ev ha' h2,Option.bind_some]
   unfold qgV
   split
   ·rfl
   ·have e:∀d,((qaq o (.ref s' v')).any (qh4 d))=false:=fun d=>by unfold qaq; split <;> simp [qh4]
    simp only [e,Bool.false_eq_true,if_false,Q.run]
theorem qg1 {s:Nat} :(us:List U)→ {σ:St} →qdP (qb σ s).2=true→us.all (fun u=>u.s != s||qdP u.a)=true→qdP (qb (qa σ us) s).2=true
 |[],_,h,_=>h
 |u::us,σ,h,hu=>by
  simp only [List.all_cons,Bool.and_eq_true] at hu
  refine qg1 us (σ:=qr σ u) ?_ hu.2
  by_cases hs:s=u.s
  ·by_cases hlt:u.s<σ.length
   ·have h1:=hu.1
    simp only [hs,bne_self_eq_false,Bool.false_or] at h1
    rw [hs,qk σ u hlt]
    exact h1
   ·have e1:qr σ u=σ:=by simp only [qr]; exact List.set_eq_of_length_le (by omega)
    rw [e1]
    exact h
  ·rw [qc _ _ hs]
   exact h
theorem qeB {S:Nat→Bool} {s:Nat} :(l:List qcc)→(i:Nat)→ {σ:St} →qdP (qb σ s).2=true→l.all (fun f=>f.us.all (fun u=>u.s != s||qdP u.a))=true→qdP (qb (qaK S i l σ) s).2=true
 |[],_,_,h,_=>h
 |f::l,i,σ,h,hl=>by
  simp only [List.all_cons,Bool.and_eq_true] at hl
  simp only [qaK]
  split
  ·exact qeB l (i+1) (qg1 f.us h hl.1) hl.2
  ·exact qeB l (i+1) h hl.2
theorem qno {E:Env} {o:Oper} {s:Nat} (ho:qdE o=some s) (hp:E.pins.contains s=true) {lk lk':Nat→Ent} (h1:qdP (lk s).2=true) (h2:qdP (lk' s).2=true):(qcg E none o).run lk'=(qcg E none o).run lk:=by
 unfold qdE at ho
 split at ho
 case h_2=>cases ho
 rename_i s' hg hop
 injection ho with ho
 subst ho
 cases ha:lk s' with
 |mk v a=>
  cases ha':lk' s' with
  |mk v' a'=>
   rw [ha] at h1
   rw [ha'] at h2
   simp only at h1 h2
   cases a <;> simp only [qdP,Bool.false_eq_true] at h1
   cases a' <;> simp only [qdP,Bool.false_eq_true] at h2
   simp only [qcg,qbN,hop,opd,Q.bind,Q.run,ha,ha',qan,qi8,hp,if_true,okE]
   unfold qgV
   split
   ·rfl
   ·have e:∀d,((qaq o (.pip s' 0)).any (qh4 d))=false:=fun d=>by unfold qaq; split <;> simp [qh4]
    simp only [e,Bool.false_eq_true,if_false,Q.run]
theorem qml {ops:Array Oper} {o:Oper} {s:Nat} {g:Option (Nat×Bool)} (ho:qdE o=some s) (hg:qbv ops o=some g):g=none:=by
 unfold qdE at ho
 split at ho
 case h_2=>cases ho
 rename_i s' hgd hop
 unfold qbv at hg
 rw [hgd] at hg
 injection hg with hg
 exact hg.symm
theorem qv.drew {C:Ctx} {σ:St} {tm:Array Value} {w:World} {own:Nat→List Nat} (h:qv C σ tm w own):qv C σ tm w.drew own:=
 ⟨h.size,h.kept.drew,h.mine,h.nodup,h.apart,h.outside,fun s hs=>qL.keep (X:= { P:=C.P,ver:=fun s=>(qb σ s).1,tm:=fun s=>tm.getD s undef,w,F:=C.free w own,own,pn:=C.pn }) (X':= { P:=C.P,ver:=fun s=>(qb σ s).1,tm:=fun s=>tm.getD s undef,w:=w.drew,F:=C.free w.drew own,own,pn:=C.pn }) ⟨rfl,rfl⟩ (fun b hb hlt=>⟨hb,hlt,rfl⟩) (fun _ _ _=>rfl) (fun m hm hv=>⟨hv,rfl,fun b hb hp=>⟨hb,rfl⟩⟩) (h.rep s hs),h.wf⟩
end Go.Vi
namespace Go.Vi
open Go.RowKit
section
variable {C:Ctx} {E:Env} {σ τ:St} {tm:Array Value} {a:Act} {w w':World} {own:Nat→List Nat} {o:Oper} {p:qdR} [Tabbed E C]
theorem qgi: {c:List Bool} →qoD c=true→qbg c
 |[],_=>fun b hb=>by cases hb
 |[x],h=>fun b hb=>by simp at hb; rw [hb]; exact h
 |x::y::r,h=>fun b hb=>by
  simp only [qoD,Bool.and_eq_true] at h
  rcases List.mem_cons.1 hb with rfl|hb
  ·exact h.1
  ·exact qgi h.2 b hb
theorem qa6 {wr:List Nat} :(us:List U)→ {σ:St} →(∀u∈us,u.s∈wr)→Fr wr σ (qa σ us)
 |[],σ,_=>⟨rfl,fun _ _=>rfl⟩
 |u::us,σ,h=>by
  obtain ⟨h1,h2⟩:=qa6 us (σ:=qr σ u) (fun v hv=>h v (List.mem_cons_of_mem _ hv))
  refine ⟨by rw [show qa σ (u::us)=qa (qr σ u) us from rfl,h1,qD],fun s hs=> ?_⟩
  show qb (qa (qr σ u) us) s=_
  rw [h2 s hs]
  exact qc σ u fun e=>hs (e ▸ h u List.mem_cons_self)
theorem Fr.trans {wr:List Nat} {a b c:St} (h:Fr wr a b) (k:Fr wr b c):Fr wr a c:=⟨k.1.trans h.1,fun s hs=>(k.2 s hs).trans (h.2 s hs)⟩
theorem Fr.refl (wr:List Nat) (a:St):Fr wr a a:=⟨rfl,fun _ _=>rfl⟩
theorem Fr.mono {wr wr':List Nat} {a b:St} (h:Fr wr a b) (hs:∀s∈wr,s∈wr'):Fr wr' a b:=⟨h.1,fun s hn=>h.2 s fun hm=>hn (hs s hm)⟩
def qn0 (σ σ':St):Prop:=∀s,(qb σ s).1≤(qb σ' s).1
theorem qke (σ:St) (u:U):qn0 σ (qr σ u):=fun s=>by
 by_cases h:s=u.s
 ·subst h
  by_cases hl:u.s<σ.length
  ·rw [qk σ u hl]
   simp only
   split
   ·exact Nat.le_succ _
   ·exact Nat.le_refl _
  ·have:qr σ u=σ:=by simp only [qr]; exact List.set_eq_of_length_le (by omega)
   rw [this]
   exact Nat.le_refl _
 ·rw [qc _ _ h]; exact Nat.le_refl _
theorem qn0.trans {a b c:St} (h:qn0 a b) (k:qn0 b c):qn0 a c:=fun s=>Nat.le_trans (h s) (k s)
theorem qfW:(us:List U)→(σ:St)→qn0 σ (qa σ us)
 |[],_=>fun _=>Nat.le_refl _
 |u::us,σ=>(qke σ u).trans (qfW us (qr σ u))
theorem qdf {wr:List Nat} {ops:Array Oper} :(l:List Oper)→ {σ σ':St} → {c c':List Bool} → {fs fs':List qcc} →qaM E wr ops l σ c fs=some (σ',c',fs')→
  Fr wr σ σ'∧qn0 σ σ'∧(∀b∈c,b∈c')∧(∀f∈fs,f∈fs')∧Fr (fs'.flatMap (·.wr)) σ σ'
 |[],σ,σ',c,c',fs,fs',he=>by
  simp only [qaM,Option.some.injEq,Prod.mk.injEq] at he
  obtain ⟨rfl,rfl,rfl⟩:=he
  exact ⟨Fr.refl _ _,fun _=>Nat.le_refl _,fun _ h=>h,fun _ h=>h,Fr.refl _ _⟩
 |o::r,σ,σ',c,c',fs,fs',he=>by
  simp only [qaM] at he
  split at he
  ·cases he
  rename_i g hg
  split at he
  ·cases he
  rename_i f hf
  split at he
  case isFalse=>cases he
  rename_i hu
  obtain ⟨h1,h2,h3,h4,h5⟩:=qdf r he
  have hu':∀u∈f.upd,u.s∈wr:=fun u hm=>by
   have:=List.all_eq_true.1 hu u hm
   simp at this
   exact this.1
  refine ⟨(qa6 f.upd hu').trans h1,(qfW _ _).trans h2,fun b hb=>h3 b (List.mem_append_left _ hb),fun x hx=>h4 x (List.mem_cons_of_mem _ hx),(qa6 f.upd fun u hm=> ?_).trans h5⟩
  exact List.mem_flatMap.2 ⟨_,h4 _ List.mem_cons_self,List.mem_map_of_mem hm⟩
def qaP (pin:List Nat) (a a':Act):Prop:=a'.defers=a.defers∧∀s∈pin,a'.tmps.getD s undef=a.tmps.getD s undef
theorem qaP.refl (pin:List Nat) (a:Act):qaP pin a a:=⟨rfl,fun _ _=>rfl⟩
theorem qaP.trans {pin:List Nat} {a b c:Act} (h:qaP pin b c) (k:qaP pin a b):qaP pin a c:=⟨h.1.trans k.1,fun s hs=>(h.2 s hs).trans (k.2 s hs)⟩
theorem qaP.pinC {pin:List Nat} {a a':Act} (hF:qfh E C pin) (hpc:qjY C a.tmps) (h:qaP pin a a'):qjY C a'.tmps:=fun k b hb=>(h.2 k (hF.sub k b hb)).trans (hpc k b hb)
theorem qhN (hE:qai E C.P) {pin wr:List Nat} (hF:qfh E C pin) {ops:Array Oper} {Q:Exit→Act→World→Prop} :(l:List Oper)→qcw pin l=true→ {σ σ':St} → {a:Act} → {w:World} → {own:Nat→List Nat} → {c c':List Bool} → {fs fs':List qcc} →
  qaM E wr ops l σ c fs=some (σ',c',fs')→qbg c'→qjY C a.tmps→qv C σ a.tmps w own→(∀a' w' own',qaP pin a a'→qv C σ' a'.tmps w' own'→Q .normal a' w')→wpList C.P ops Q l a w
 |[],_,σ,σ',a,w,own,c,c',fs,fs',he,_,_,h,hQ=>by
  simp only [qaM,Option.some.injEq,Prod.mk.injEq] at he
  obtain ⟨rfl,_,_⟩:=he
  exact hQ a w own (qaP.refl _ _) h
 |o::r,hp,σ,σ',a,w,own,c,c',fs,fs',he,hc,hpc,h,hQ=>by
  simp only [qcw,List.all_cons,Bool.and_eq_true] at hp
  simp only [qaM] at he
  split at he
  ·cases he
  rename_i g hg
  split at he
  ·cases he
  rename_i f hf
  split at he
  case isFalse=>cases he
  rename_i hu
  have hu':∀u∈f.upd,u.s<σ.length:=fun u hm=>by
   have:=List.all_eq_true.1 hu u hm
   simp at this
   exact this.2
  obtain ⟨_,_,h3,_,_⟩:=qdf r he
  have hcf:qbg f.chk:=fun b hb=>hc b (h3 b (List.mem_append_right _ hb))
  have hok:=qc6 hE hF hpc h hg hf hu' hcf (wpList C.P ops Q r) Q fun a' w' own' hd hst=>by
   have hk:qaP pin a a':=⟨hd.1,fun s hs=>hd.2 s fun e=>qbp hp.1 s (by simp [e]) hs⟩
   exact qhN hE hF r hp.2 he hc (hk.pinC hF hpc) hst fun a2 w2 own2 hd2 hst2=>hQ a2 w2 own2 (hd2.trans hk) hst2
  unfold wpList
  split at hok
  ·rename_i hw
   rw [if_pos hw]
   exact .inl hok
  ·rename_i hw
   rw [if_neg hw]
   exact hok
theorem qlu {listed:Array Bool} (h:listed.toList.countP (fun b=> !b)=0) {i:Nat} (hi:i<listed.size):listed.getD i false=true:=by
 have:=List.countP_eq_zero.1 h listed[i] (by simp)
 rw [Array.getD_eq_getD_getElem?,Array.getElem?_eq_getElem hi]
 simpa using this
theorem qnS (hE:qai E C.P) {pin:List Nat} (hF:qfh E C pin) {ops:Array Oper} {Q:Exit→Act→World→Prop} {fl0 fl:List qcc} {c:List Bool} {a0:Act} (hp:qcw pin ops.toList=true) (hd:qlU E ops σ ops.toList fl0 c) (hus:fl.map (·.us)=fl0.map (·.us)) (hsoft:∀(i:Nat) (o:Oper) (f f':qcc),ops.toList[i]? =some o→fl0[i]? =some f→fl[i]? =some f'→f'.rd=f.rd∨∃s,qdE o=some s∧(qlb σ fl0 s||qiI E.pins σ fl0 s)=true) (hg:qeP ops.toList fl [] []=true) (hc:qbg c) (hpc:qjY C a0.tmps)
  (hQ:∀a' w' own',qaP pin a0 a'→qv C (qb8 fl σ) a'.tmps w' own'→Q .normal a' w'):∀(fuel:Nat) (listed:Array Bool) (a:Act) (w:World) (own:Nat→List Nat),listed.size=ops.size→listed.toList.countP (fun b=> !b)=fuel→qgx ops (fun i=>listed.getD i false)→qaP pin a0 a→
   qv C (qaK (fun i=>listed.getD i false) 0 fl σ) a.tmps w own→wpAny C.P .any ops Q fuel listed a w:=by
 have hlen0:fl0.length=ops.size:=by have:=hd.1; simpa using this
 have hlen:fl.length=ops.size:=by have:=congrArg List.length hus; simp only [List.length_map] at this; omega
 have full:∀ {listed:Array Bool},(∀i,i<ops.size→listed.getD i false=true)→qaK (fun i=>listed.getD i false) 0 fl σ=qb8 fl σ:=by
  intro listed hall
  have hb:=qbi fl 0 fl.length σ
  rw [List.take_length] at hb
  rw [←hb]
  apply qiE
  ·rw [qax,qax]
  ·intro s
   refine qbK fl 0 rfl rfl fun k g hg _=> ?_
   have:=(List.getElem?_eq_some_iff.1 hg).1
   rw [hall (0+k) (by omega),decide_eq_true (by omega)]
 intro fuel
 induction fuel with
 |zero=>
  intro listed a w own hs hcnt hcl hk hst
  have hall:∀i,i<ops.size→listed.getD i false=true:=fun i hi=>qlu hcnt (by omega)
  refine ⟨?_,hQ a w own hk (by rw [full hall] at hst; exact hst)⟩
  cases hr:Region.ready .any ops listed with
  |nil=>rfl
  |cons i r=>
   obtain ⟨h1,h2,_⟩:=qeS (ops:=ops) (listed:=listed) (i:=i) (by rw [hr]; exact List.mem_cons_self)
   have h3:=hall i h1
   rw [Array.getD_eq_getD_getElem?,Array.getElem?_eq_getElem (by omega)] at h2 h3
   simp only [Option.getD_some] at h2 h3
   rw [h2] at h3
   cases h3
 |succ fuel ih=>
  intro listed a w own hs hcnt hcl hk hst
  refine ⟨fun hr=> ?_,fun i hi=> ?_⟩
  ·have hall:∀i,i<ops.size→listed.getD i false=true:=by
    intro i
    induction i using Nat.strongRecOn with
    |ind i ihi=>
     intro hi
     cases hb:listed.getD i false with
     |true=>rfl
     |false=>
      have ho:ops[i]? =some ops[i]:=Array.getElem?_eq_getElem hi
      obtain ⟨_,M,hM⟩:=qhV hg
      obtain ⟨q1,_,_⟩:=hM i _ _ ho (List.getElem?_eq_getElem (by omega))
      have hb':listed.getD i true=false:=by
       rw [Array.getD_eq_getD_getElem?,Array.getElem?_eq_getElem (by omega)] at hb⊢
       exact hb
      have:=qhA ho hb' fun j hj=>ihi j (q1 j hj) (by have:=q1 j hj; omega)
      rw [hr] at this
      cases this
   exact hQ a w own hk (by rw [full hall] at hst; exact hst)
  ·obtain ⟨h1,h2,o,ho,he⟩:=qeS hi
   have hf:fl[i]? =some fl[i]:=List.getElem?_eq_getElem (by omega)
   have hn:listed.getD i false=false:=by
    rw [Array.getD_eq_getD_getElem?,Array.getElem?_eq_getElem (by omega)] at h2⊢
    exact h2
   have hf0:fl0[i]? =some fl0[i]:=List.getElem?_eq_getElem (by omega)
   obtain ⟨g,f,k1,k2,k3,k4,k5⟩:=hd.2 i o _ (by simpa using ho) hf0
   have hui:(fl[i]).us=f.upd:=by
    have h1:(fl.map (·.us))[i]? =(fl0.map (·.us))[i]? :=by rw [hus]
    simp only [List.getElem?_map,hf,hf0,Option.map_some,Option.some.injEq] at h1
    rw [h1,k3]
   have hta:qb8 (fl0.take i) σ=qb8 (fl.take i) σ:=qgL _ _ (by rw [List.map_take,List.map_take,hus]) σ
   have hrun:(qcg E g o).run (qb (qaK (fun i=>listed.getD i false) 0 fl σ))=some f:=by
    rw [←k2]
    rcases hsoft i o _ _ (by simpa using ho) hf0 hf with hrd|⟨s,hs1,hs2⟩
    ·rw [hta]
     rw [hta] at k3
     refine Go.Vi.Q.run_congr _ fun s hs=>qhL hg hcl ho hf hn he (.inl ?_)
     rw [hrd,k3]
     exact hs
    ·have hgn:=qml hs1 k1
     subst hgn
     rcases Bool.or_eq_true_iff.1 hs2 with hs2|hs2
     ·simp only [qlb,Bool.and_eq_true] at hs2
      obtain ⟨a1,a2⟩:=qdI (S:=fun i=>listed.getD i false) fl0 0 hs2.1 hs2.2
      obtain ⟨b1,b2⟩:=qdI (S:=fun k=>decide (k<0+i)) fl0 0 hs2.1 hs2.2
      rw [qgC _ fl0 fl hus.symm] at a1 a2
      rw [qbi fl0 0 i σ] at b1 b2
      exact qmj hs1 b2 a2 (a1.trans b1.symm)
     ·simp only [qiI,Bool.and_eq_true] at hs2
      have a2:=qeB (S:=fun i=>listed.getD i false) fl0 0 hs2.2.1 hs2.2.2
      have b2:=qeB (S:=fun k=>decide (k<0+i)) fl0 0 hs2.2.1 hs2.2.2
      rw [qgC _ fl0 fl hus.symm] at a2
      rw [qbi fl0 0 i σ] at b2
      exact qno hs1 hs2.1 b2 a2
   have hok:=qc6 hE hF (hk.pinC hF hpc) hst k1 hrun (fun u hu=>by rw [qax]; exact k4 u hu) (fun b hb=>hc b (k5 b hb)) (wpAny C.P .any ops Q fuel (listed.setIfInBounds i true)) Q fun a' w' own' hkd hst'=> ?_
   ·unfold wpOp
    rw [ho]
    simp only
    split at hok
    ·rename_i hw
     rw [if_pos hw]
     exact .inl hok
    ·rename_i hw
     rw [if_neg hw]
     exact hok
   ·have hset:∀j,(listed.setIfInBounds i true).getD j false=if j=i then true else listed.getD j false:=by
     intro j
     simp only [Array.getD_eq_getD_getElem?,Array.getElem?_setIfInBounds]
     by_cases hj:j=i
     ·subst hj
      simp [hs,h1]
     ·rw [if_neg (fun e=>hj e.symm),if_neg hj]
    refine ih _ a' w' own' (by simpa using hs) ?_ ?_ ?_ ?_
    ·rw [Array.toList_setIfInBounds,List.countP_set (by simp; omega),hcnt]
     have hb:listed.toList[i]'(by simp; omega)=false:=by
      rw [Array.getD_eq_getD_getElem?,Array.getElem?_eq_getElem (by omega)] at hn
      simpa using hn
     rw [hb]
     simp
    ·intro j oj hoj hSj k hkk
     simp only [hset] at hSj⊢
     split
     ·rfl
     ·by_cases hji:j=i
      ·subst hji
       rw [ho] at hoj
       injection hoj with hoj
       subst hoj
       exact he k hkk
      ·rw [if_neg hji] at hSj
       exact hcl j oj hoj hSj k hkk
    ·refine qaP.trans ⟨hkd.1,fun s hs=>hkd.2 s fun e=> ?_⟩ hk
     have:=List.all_eq_true.1 hp o (by have:=Array.mem_of_getElem? ho; simpa using this)
     exact qbp this s (by simp [e]) hs
    ·have e:=qkd (σ:=σ) hg (S':=fun j=>(listed.setIfInBounds i true).getD j false) hcl ho hf hn he (by simp [hset]) (fun j hj=>by simp [hset,hj])
     rw [e]
     rw [hui]
     exact hst'
theorem qis (hE:qai E C.P) {pin wr:List Nat} (hF:qfh E C pin) {id:Nat} {ops:Array Oper} {d:Bool} {Q:Exit→Act→World→Prop} {σ':St} {c:List Bool} {ds:List Nat} (hp:qcw pin ops.toList=true) (he:qb1 E wr ops d σ=some (σ',c,ds)) (hc:qbg c) (hpc:qjY C a.tmps) (h:qv C σ a.tmps w own)
  (hQ:∀a' w' own',qaP pin a a'→qv C σ' a'.tmps w' own'→Q .normal a' w'):(Code.region id ops d).wp C.P Q a w:=by
 unfold qb1 at he
 split at he
 case h_2=>cases he
 rename_i σ1 c1 fs h1
 split at he
 case isFalse=>cases he
 rename_i hd
 injection he with he
 simp only [Prod.mk.injEq] at he
 obtain ⟨rfl,rfl,rfl⟩:=he
 cases d with
 |false=>exact wp_region_list (qhN hE hF ops.toList hp h1 hc hpc h hQ)
 |true=>
  obtain ⟨fl,g1,g2,g3,_⟩:=qf4 ops.toList h1
  have hfs:fs.reverse=fl:=by rw [g1]; simp
  rw [hfs] at hd
  have hd:qeP ops.toList (qfl E.pins σ fl ops.toList fl) [] []=true:=by simpa using hd
  have hsu:=qjt E.pins σ fl ops.toList fl g2.1
  refine wp_region_any hE.mixed (qnS hE hF (a0:=a) hp g2 hsu (qjw E.pins σ fl ops.toList fl g2.1) hd hc hpc (by rw [qgL _ _ hsu,←g3]; exact hQ) _ _ _ _ own (by simp) (by simp [List.countP_replicate]) (fun i o ho hS=> ?_) (qaP.refl _ _) ?_)
  ·simp [Array.getD_eq_getD_getElem?,Array.getElem?_replicate] at hS
   split at hS <;> simp at hS
  ·have e:qaK (fun i=>(Array.replicate ops.size false).getD i false) 0 (qfl E.pins σ fl ops.toList fl) σ=σ:=by
    have:(fun i=>(Array.replicate ops.size false).getD i false)=fun _=>false:=by
     funext i
     simp only [Array.getD_eq_getD_getElem?,Array.getElem?_replicate]
     split <;> rfl
    rw [this,qeZ]
   rw [e]
   exact h.drew
theorem qiP {wr:List Nat} {ops:Array Oper} {d:Bool} {σ':St} {c:List Bool} {ds:List Nat} (he:qb1 E wr ops d σ=some (σ',c,ds)):Fr wr σ σ'∧qn0 σ σ'∧Fr ds σ σ':=by
 unfold qb1 at he
 split at he
 case h_2=>cases he
 rename_i σ1 c1 fs h1
 split at he
 case isFalse=>cases he
 injection he with he
 simp only [Prod.mk.injEq] at he
 obtain ⟨rfl,rfl,rfl⟩:=he
 obtain ⟨k1,k2,_,_,k5⟩:=qdf ops.toList h1
 exact ⟨k1,k2,k5⟩
theorem qhi (b:Bool) (σ1 σ2:St):(ds:List Nat)→(σ:St)→(qfU b ds σ σ1 σ2).length=σ.length∧∀s,(s∈ds∧s<σ.length→qb (qfU b ds σ σ1 σ2) s=(max (qb σ1 s).1 (qb σ2 s).1+1,qc4 b (qb σ1 s).2 (qb σ2 s).2))∧(¬(s∈ds∧s<σ.length)→qb (qfU b ds σ σ1 σ2) s=qb σ s)
 |[],σ=>⟨rfl,fun s=>⟨fun h=>(by cases h.1),fun _=>rfl⟩⟩
 |d::ds,σ=>by
  obtain ⟨h1,h2⟩:=qhi b σ1 σ2 ds (σ.set d (max (qb σ1 d).1 (qb σ2 d).1+1,qc4 b (qb σ1 d).2 (qb σ2 d).2))
  have e:qfU b (d::ds) σ σ1 σ2=qfU b ds (σ.set d (max (qb σ1 d).1 (qb σ2 d).1+1,qc4 b (qb σ1 d).2 (qb σ2 d).2)) σ1 σ2:=rfl
  rw [e]
  refine ⟨by rw [h1]; simp,fun s=> ?_⟩
  obtain ⟨k1,k2⟩:=h2 s
  rw [List.length_set] at k1 k2
  by_cases hs:s∈ds∧s<σ.length
  ·exact ⟨fun _=>k1 hs,fun hn=>absurd ⟨List.mem_cons_of_mem _ hs.1,hs.2⟩ hn⟩
  ·rw [k2 hs,qez]
   by_cases hd:s=d∧d<σ.length
   ·rw [if_pos hd]
    obtain ⟨rfl,hd⟩:=hd
    exact ⟨fun _=>rfl,fun hn=>absurd ⟨List.mem_cons_self,hd⟩ hn⟩
   ·rw [if_neg hd]
    refine ⟨fun hn=> ?_,fun _=>rfl⟩
    rcases List.mem_cons.1 hn.1 with rfl|hm
    ·exact absurd ⟨rfl,hn.2⟩ hd
    ·exact absurd ⟨hm,hn.2⟩ hs
theorem qv.join {b:Bool} {ds:List Nat} {σ1 σ2:St} (h:qv C (bif b then σ1 else σ2) tm w own) (h1:Fr ds σ σ1) (h2:Fr ds σ σ2):qv C (qfU b ds σ σ1 σ2) tm w own:=by
 obtain ⟨j1,j2⟩:=qhi b σ1 σ2 ds σ
 have hf:Fr ds σ (bif b then σ1 else σ2):=by cases b <;> assumption
 have zero:∀ {ρ:St} {s:Nat},ρ.length=σ.length→¬s<σ.length→qb ρ s=(0,.undef):=fun {ρ s} hl hs=>by simp [qb,List.getD,List.getElem?_eq_none (show ρ.length≤s by omega)]
 refine h.retag (j1.trans hf.1.symm) (fun s=>s∈ds∧s<σ.length) (fun s hs=> ?_) (fun s hs=> ?_) (fun s m _ hm hb=> ?_)
 ·rw [(j2 s).2 hs]
  by_cases hd:s∈ds
  ·have hl:¬s<σ.length:=fun hl=>hs ⟨hd,hl⟩
   rw [zero rfl hl,zero hf.1 hl]
  ·exact (hf.2 s hd).symm
 ·rw [(j2 s).1 hs]
  have e:(qb (bif b then σ1 else σ2) s).2=bif b then (qb σ1 s).2 else (qb σ2 s).2:=by cases b <;> rfl
  refine ⟨?_,fun v hv=> ?_⟩
  ·exact (qhE (X:=sit C (bif b then σ1 else σ2) tm w own) b (by rw [←e]; exact h.at_ s)).2
  ·rw [e] at hv
   exact (qhE b hv).1
 ·rw [(j2 m.1).1 hb]
  have:=h.wf s m hm
  have:m.2≤max (qb σ1 m.1).1 (qb σ2 m.1).1:=by
   cases b
   ·exact Nat.le_trans this (Nat.le_max_right _ _)
   ·exact Nat.le_trans this (Nat.le_max_left _ _)
  show m.2<_+1
  omega
theorem qfo {b:Bool} {ds wr:List Nat} {σ1 σ2:St} (h:∀s∈ds,s∈wr):Fr wr σ (qfU b ds σ σ1 σ2):=by
 obtain ⟨j1,j2⟩:=qhi b σ1 σ2 ds σ
 exact ⟨j1,fun s hs=>(j2 s).2 fun hn=>hs (h s hn.1)⟩
end
end Go.Vi
namespace Go.Vi
open Go.RowKit
theorem qv.refillB {C:Ctx} {σ:St} {tm:Array Value} {w:World} {own:Nat→List Nat} (h:qv C σ tm w own) {s t1:Nat} {c c':BC} {o v0 v1 et:Nat} {e:Ty} {xs:List e.den} (hs:(qb σ s).2= .bhl c o t1 v0) (hgt:qb σ t1=(v1,.own et e xs)) (hv:v1=v0) (hne:t1≠s)
  (hsw:c.swap o (.own et e xs)=some c'):∃own',qv C (qa σ [⟨s,false,.box c'⟩,⟨t1,true,.undef⟩]) tm w own':=by
 subst hv
 have hat:=h.at_ s
 rw [hs] at hat
 obtain ⟨b,cs,te,b1,b3,hv,h1,h2,h3,h4,h5,h6⟩:=hat
 have hrt:=h.at_ t1
 rw [hgt] at hrt
 have hrt:qA w (C.free w own) et e xs (tm.getD t1 undef) (own t1):=hrt
 have h6:tm.getD t1 undef=hv:=h6 (show (qb σ t1).1=v1 by rw [hgt])
 have h1:tm.getD s undef=ptr b 0:=h1
 have h5:own s=b::(b1++b3):=h5
 have lt:∀ {x:Nat},(qb σ x).2≠ .undef→x<σ.length:=fun {x} hx=>by
  by_cases hlt:x<σ.length
  ·exact hlt
  ·exact absurd (by simp [qb,List.getD,List.getElem?_eq_none (Nat.le_of_not_lt hlt)]) hx
 have hsl:s<σ.length:=lt (by rw [hs]; simp)
 have htl:t1<σ.length:=lt (by rw [hgt]; simp)
 let nbS:List Nat:=b::(b1++(own t1++b3))
 have hperm:nbS.Perm (own s++own t1):=by
  rw [h5]
  refine List.perm_iff_count.2 fun x=> ?_
  simp only [nbS,List.count_append,List.count_cons]
  omega
 have hnn:(own s++own t1).Nodup:=List.nodup_append.2 ⟨h.nodup s,h.nodup t1,fun b hb b' hb' e=>by subst e; exact hne (h.apart t1 s b hb' hb)⟩
 let nb:Nat→List Nat:=fun x=>if x=s then nbS else []
 have nS:nb s=nbS:=by simp [nb]
 have nX:nb t1=[]:=by simp [nb,hne]
 have mem:∀u:U,u∈([⟨s,false,.box c'⟩,⟨t1,true,.undef⟩]:List U)→u=⟨s,false,.box c'⟩∨u=⟨t1,true,.undef⟩:=fun u hu=>by simpa using hu
 refine Exists.elim (h.multi (tm':=tm) (w':=w) [⟨s,false,.box c'⟩,⟨t1,true,.undef⟩] nb (by simp [Ne.symm hne]) (fun u hu=> ?_) rfl (fun _ _=>rfl) (fun u hu=> ?_) (qa5.refl _ _) (fun u hu=> ?_) (fun u hu u' hu' b hb hb'=> ?_) (fun X' hP hpn hw hF hF2 hver htm u hu=> ?_) (fun u hu m hm=> ?_)) fun own' hfin=>⟨own',hfin.1⟩
 ·rcases mem u hu with rfl|rfl
  ·exact hsl
  ·exact htl
 ·rcases mem u hu with rfl|rfl
  ·refine .inr ⟨rfl,fun b hb hp=>⟨?_,rfl⟩⟩
   show b∈nb s
   rw [nS]
   exact hperm.mem_iff.2 (List.mem_append_left _ hb)
  ·exact .inl rfl
 ·rcases mem u hu with rfl|rfl
  ·simp only [nS]
   refine ⟨fun b hb=> ?_,hperm.nodup_iff.2 hnn⟩
   rcases List.mem_append.1 (hperm.mem_iff.1 hb) with hb|hb
   ·exact .inr ⟨⟨s,false,.box c'⟩,by simp,hb⟩
   ·exact .inr ⟨⟨t1,true,.undef⟩,by simp,hb⟩
  ·simp only [nX]
   exact ⟨(fun b hb=>by cases hb),List.nodup_nil⟩
 ·rcases mem u hu with rfl|rfl <;> rcases mem u' hu' with rfl|rfl
  ·rfl
  ·simp only [nX] at hb'; cases hb'
  ·simp only [nX] at hb; cases hb
  ·rfl
 ·rcases mem u hu with rfl|rfl
  ·simp only [nS]
   refine ⟨b,cs,b1++(own t1++b3),te,h1,by rw [hw]; exact h2,?_,rfl⟩
   rw [hw]
   refine h4 (.own et e xs) c' (own t1) (fun x hx hlt=>⟨hF x hx,hlt,rfl⟩) (fun _ _ _=>rfl) hsw ⟨hv,rfl,?_⟩
   rw [←h6]
   exact hrt.keep (fun b hb hlt=>⟨hF b hb,hlt,rfl⟩) (fun _ _ _=>rfl)
  ·trivial
 ·rcases mem u hu with rfl|rfl <;> cases hm
theorem qv.refill {C:Ctx} {σ:St} {tm:Array Value} {w:World} {own:Nat→List Nat} (h:qv C σ tm w own) {s t:Nat} {a':AV} (hr:qkv σ s=some (a',t)):∃own',qv C (qa σ [⟨s,false,a'⟩,⟨t,true,.undef⟩]) tm w own':=by
 unfold qkv at hr
 split at hr
 case h_3=>cases hr
 case h_2=>
  rename_i c o t1 v0 hs
  split at hr
  case h_2=>cases hr
  rename_i v1 et e xs hgt
  split at hr
  case isFalse=>cases hr
  rename_i hcond
  split at hr
  case h_2=>cases hr
  rename_i c' hsw
  injection hr with hr
  simp only [Prod.mk.injEq] at hr
  obtain ⟨rfl,rfl⟩:=hr
  exact h.refillB hs hgt hcond.1 hcond.2 hsw
 rename_i av fo i o1 t1 v0 hs
 split at hr
 case h_2=>cases hr
 rename_i et e xs v1 et' e' ys hrow hgt
 split at hr
 case isFalse=>cases hr
 rename_i hcond
 obtain ⟨hv,hne,hna,hat,hmk,hsub⟩:=hcond
 subst hv
 obtain ⟨y0,hsub⟩:=Option.isSome_iff_exists.1 hsub
 split at hr
 case h_2=>cases hr
 rename_i y hy
 split at hr
 case h_2=>cases hr
 rename_i a2 hsw
 injection hr with hr
 simp only [Prod.mk.injEq] at hr
 obtain ⟨rfl,rfl⟩:=hr
 obtain ⟨g,n,cap,b1,b2,b3,j1,j2,j3,j4,j5,j6,j7,j8⟩:=h.holRow hs hrow
 have hcell:=j5 (by rw [hgt])
 have hrt:=h.at_ t1
 rw [hgt] at hrt
 have hrt:qJ w (C.free w own) et' e' ys (tm.getD t1 undef) (own t1):=qA.to0 hmk hrt
 obtain ⟨p,q,w3,w4⟩:=qdM.refill j3 j1 j2 hna hsub hat hy hcell hrt
 have lt:∀ {x:Nat},(qb σ x).2≠ .undef→x<σ.length:=fun {x} hx=>by
  by_cases hlt:x<σ.length
  ·exact hlt
  ·exact absurd (by simp [qb,List.getD,List.getElem?_eq_none (Nat.le_of_not_lt hlt)]) hx
 have hsl:s<σ.length:=lt (by rw [hs]; simp)
 have htl:t1<σ.length:=lt (by rw [hgt]; simp)
 let nbS:List Nat:=b1++((g::(p++(own t1++q)))++b3)
 have hperm:nbS.Perm (own s++own t1):=by
  rw [j6,w3]
  refine List.perm_iff_count.2 fun x=> ?_
  simp only [nbS,List.count_append,List.count_cons]
  omega
 have hnn:(own s++own t1).Nodup:=List.nodup_append.2 ⟨h.nodup s,h.nodup t1,fun b hb b' hb' e=>by subst e; exact hne (h.apart t1 s b hb' hb)⟩
 let nb:Nat→List Nat:=fun x=>if x=s then nbS else []
 have nS:nb s=nbS:=by simp [nb]
 have nX:nb t1=[]:=by simp [nb,hne]
 have mem:∀u:U,u∈([⟨s,false,a2⟩,⟨t1,true,.undef⟩]:List U)→u=⟨s,false,a2⟩∨u=⟨t1,true,.undef⟩:=fun u hu=>by simpa using hu
 refine Exists.elim (h.multi (tm':=tm) (w':=w) [⟨s,false,a2⟩,⟨t1,true,.undef⟩] nb (by simp [Ne.symm hne]) (fun u hu=> ?_) rfl (fun _ _=>rfl) (fun u hu=> ?_) (qa5.refl _ _) (fun u hu=> ?_) (fun u hu u' hu' b hb hb'=> ?_) (fun X' hP hpn hw hF hF2 hver htm u hu=> ?_) (fun u hu m hm=> ?_)) fun own' hfin=>⟨own',hfin.1⟩
 ·rcases mem u hu with rfl|rfl
  ·exact hsl
  ·exact htl
 ·rcases mem u hu with rfl|rfl
  ·refine .inr ⟨rfl,fun b hb hp=>⟨?_,rfl⟩⟩
   show b∈nb s
   rw [nS]
   exact hperm.mem_iff.2 (List.mem_append_left _ hb)
  ·exact .inl rfl
 ·rcases mem u hu with rfl|rfl
  ·simp only [nS]
   refine ⟨fun b hb=> ?_,hperm.nodup_iff.2 hnn⟩
   rcases List.mem_append.1 (hperm.mem_iff.1 hb) with hb|hb
   ·exact .inr ⟨⟨s,false,a2⟩,by simp,hb⟩
   ·exact .inr ⟨⟨t1,true,.undef⟩,by simp,hb⟩
  ·simp only [nX]
   exact ⟨(fun b hb=>by cases hb),List.nodup_nil⟩
 ·rcases mem u hu with rfl|rfl <;> rcases mem u' hu' with rfl|rfl
  ·rfl
  ·simp only [nX] at hb'; cases hb'
  ·simp only [nX] at hb; cases hb
  ·rfl
 ·rcases mem u hu with rfl|rfl
  ·simp only [nS]
   refine (j8 X' (.own et e (qcr xs i y)) (g::(p++(own t1++q))) a2 ?_ hF ⟨_,rfl,?_⟩ hsw).1
   ·rw [hw]; exact qa5.refl _ _
   ·rw [hw]
    exact qdM.keep (fun b hb hlt=>⟨hF b hb,hlt,rfl⟩) (fun _ _ _=>rfl) w4
  ·trivial
 ·rcases mem u hu with rfl|rfl
  ·rw [qdQ hsw] at hm; cases hm
  ·cases hm
end Go.Vi
namespace Go.Vi
open Go.RowKit
theorem qeq:(l:List MapEntry)→l.Pairwise (fun x y=>x.born<y.born)→(j:Nat)→(hj:j<l.length)→l.filter (fun x=> !(x.born == (l[j]).born))=l.eraseIdx j
 |[],_,j,hj=>by cases hj
 |x::l,hp,0,_=>by
  have hp:=List.pairwise_cons.1 hp
  simp only [List.getElem_cons_zero,List.filter_cons,beq_self_eq_true,Bool.not_true,Bool.false_eq_true,if_false,List.eraseIdx_cons_zero]
  exact List.filter_eq_self.2 fun y hy=>by
   have:=hp.1 y hy
   simp; omega
 |x::l,hp,j+1,hj=>by
  have hp:=List.pairwise_cons.1 hp
  have hj':j<l.length:=by simpa using hj
  have:=hp.1 _ (List.getElem_mem hj')
  simp only [List.getElem_cons_succ,List.filter_cons,List.eraseIdx_cons_succ]
  rw [if_pos (by simp; omega),qeq l hp.2 j hj']
theorem qjj {es:Array MapEntry} (hinc:∀(i j:Nat) (e e':MapEntry),i<j→es[i]? =some e→es[j]? =some e'→e.born<e'.born):es.toList.Pairwise (fun x y=>x.born<y.born):=by
 rw [List.pairwise_iff_getElem]
 intro i j hi hj hij
 exact hinc i j _ _ hij (by rw [←Array.getElem?_toList,List.getElem?_eq_getElem hi]) (by rw [←Array.getElem?_toList,List.getElem?_eq_getElem hj])
theorem qkk {es:Array MapEntry} {seen:Array Nat} (hinc:∀(i j:Nat) (e e':MapEntry),i<j→es[i]? =some e→es[j]? =some e'→e.born<e'.born) {j:Nat} (hj:j<(qaH es seen).size):
  (qaH es (seen.push ((qaH es seen)[j]).born)).toList=(qaH es seen).toList.eraseIdx j:=by
 have h1:(qaH es seen).toList=es.toList.filter (fun e=> !seen.contains e.born):=by unfold qaH; simp
 have hp:(qaH es seen).toList.Pairwise (fun x y=>x.born<y.born):=by rw [h1]; exact (qjj hinc).filter _
 have h2:=qeq (qaH es seen).toList hp j (by simpa using hj)
 rw [←h2]
 have hg:(qaH es seen).toList[j]'(by simpa using hj)=(qaH es seen)[j]:=by simp
 rw [hg]
 generalize (qaH es seen)[j].born=bb
 rw [h1,List.filter_filter]
 unfold qaH
 rw [Array.toList_filter]
 congr 1
 funext x
 rw [show (seen.push bb).contains x.born=(seen.contains x.born||x.born == bb) from Array.contains_push ..]
 cases seen.contains x.born <;> cases (x.born == bb) <;> rfl
theorem qj1 {P:Program} (w:World) (ty:TypeId) (b bm since c0:Nat) (seen:Array Nat) (es:Array MapEntry) (clock:Nat) (hi:w.heap[b]? =some (.mapIter (some bm) since seen c0)) (hb:w.heap[bm]? =some (.map es clock)) (hold:∀x∈es.toList,x.born<since) (hsc:since≤c0):
  ((qaH es seen).size=0∧(Instr.next (ptr b 0) false ty).run P w= .ok (.tuple #[.bool false]) w)∨
  ∃(j:Nat) (hj:j<(qaH es seen).size) (w1:World),(w1=w∨w1=w.drew)∧(Instr.next (ptr b 0) false ty).run P w= .ok (.tuple #[.bool true,((qaH es seen)[j]).key,((qaH es seen)[j]).val]) { w1 with heap:=w.heap.setIfInBounds b (.mapIter (some bm) since (seen.push ((qaH es seen)[j]).born) clock) } :=by
 have hlt:b<w.heap.size:=(Array.getElem?_eq_some_iff.1 hi).1
 simp only [ptr,Instr.next,getObj,Sem.run_bind,Sem.run,hi,hb,Result.andThen,next_test_false seen es since c0 hold hsc,Bool.false_eq_true,if_false]
 unfold qaH
 have hmem:∀x∈(Array.filter (fun e=> !seen.contains e.born) es).toList,x.born<since:=fun x hx=>hold x (by simp at hx⊢; exact hx.1)
 generalize Array.filter (fun e=> !seen.contains e.born) es=L at hmem⊢
 have e1:L.filter (fun x=>decide (x.born<since))=L:=Array.filter_eq_self.2 (fun x hx=>by simpa using hmem x (by simpa using hx))
 have e2:L.filter (fun x=>decide (x.born≥since))= #[]:=by
  rw [Array.filter_eq_empty_iff]
  intro x hx
  have:=hmem x (by simpa using hx)
  simp
  omega
 simp only [e1,e2,Array.append_empty]
 by_cases h0:L.size=0
 ·left
  have:L= #[]:=Array.eq_empty_of_size_eq_zero h0
  subst this
  refine ⟨rfl,?_⟩
  simp [choose,Sem.run,Question.forced]
 ·right
  have hne:L.isEmpty=false:=by simp [Array.isEmpty,h0]
  simp only [hne,Bool.false_eq_true,if_false,Array.empty_append,Array.size_map]
  have hch:∃(j:Nat) (w1:World),j<L.size∧(w1=w∨w1=w.drew)∧(choose (Question.mapNext L.size)).run P w= .ok j w1:=by
   by_cases hf:L.size≤1
   ·exact ⟨0,w,by omega,.inl rfl,by simp [choose,Sem.run,Question.forced,hf]⟩
   ·exact ⟨_,w.drew,Nat.mod_lt _ (by omega),.inr rfl,by
     simp only [choose,Sem.run,Question.forced,decide_eq_true_eq,hf,if_false,Question.cut]
     rfl⟩
  obtain ⟨j,w1,hj,hal,hrun⟩:=hch
  refine ⟨j,hj,w1,hal,?_⟩
  have hheap:w1.heap=w.heap:=by rcases hal with rfl|rfl <;> rfl
  have hset:∀o',(setObj b o').run P w1= .ok () { w1 with heap:=w.heap.setIfInBounds b o' } :=fun o'=>by
   simp only [setObj,Sem.run,hheap,hi]
  simp only [hrun,Array.getElem?_map,Array.getElem?_eq_getElem hj,Option.map_some,Sem.run_bind,hset,Result.andThen]
  rfl
section
variable {C:Ctx} {E:Env} {σ τ:St} {tm:Array Value} {a:Act} {w w':World} {own:Nat→List Nat} {o:Oper} {p:qdR} [Tabbed E C]
theorem qb0.lt {F:Nat→Prop} {k t:Ty} {rem:List (k.den×t.den)} {cur:Option (k.den×t.den)} {b:Nat} (h:qb0 w F k t rem cur b):b<w.heap.size:=by
 rcases h with ⟨x,s,y,h3,_⟩|⟨bm,es,clock,since,c0,seen,h3,_⟩
 ·exact (Array.getElem?_eq_some_iff.1 h3).1
 ·exact (Array.getElem?_eq_some_iff.1 h3).1
theorem qb0.next {P:Program} {F:Nat→Prop} {k t:Ty} {rem:List (k.den×t.den)} {cur:Option (k.den×t.den)} {b:Nat} (ty:TypeId) (h:qb0 w F k t rem cur b) (hFb:∀x,F x→x≠b):
  (rem=[]∧(Instr.next (ptr b 0) false ty).run P w= .ok (.tuple #[.bool false]) w)∨
  ∃(j:Nat) (hj:j<rem.length) (v1 v2:Value) (w':World),(Instr.next (ptr b 0) false ty).run P w= .ok (.tuple #[.bool true,v1,v2]) w'∧qa5 (fun x=>x=b) w w'∧qb0 w' F k t (rem.eraseIdx j) (some rem[j]) b:=by
 rcases h with ⟨x,s,y,h1,h2,h3⟩|⟨bm,es,clock,since,c0,seen,h1,h2,h3,h4,h5,h6,h7,h8,⟨ys,hyp,h9,h10⟩,h11⟩
 ·refine .inl ⟨h2,?_⟩
  simp [Instr.next,ptr,getObj,Sem.run_bind,Sem.run,h1,Result.andThen]
 ·have hold:∀x∈es.toList,x.born<since:=fun x hx=>by
   obtain ⟨i,hi,rfl⟩:=List.getElem_of_mem hx
   exact h6 i _ (by rw [←Array.getElem?_toList,List.getElem?_eq_getElem hi])
  rcases qj1 (P:=P) w ty b bm since c0 seen es clock h1 h4 hold h7 with ⟨g1,g2⟩|⟨j,hj,w1,g1,g2⟩
  ·exact .inl ⟨List.eq_nil_of_length_eq_zero (by rw [←hyp.length_eq]; omega),g2⟩
  ·have hjr:j<ys.length:=by omega
   obtain ⟨i',hi',hei,hpe⟩:=qoj hyp j hjr
   have hbl:b<w.heap.size:=(Array.getElem?_eq_some_iff.1 h1).1
   have hheap:∀ob x,x≠b→({ w1 with heap:=w.heap.setIfInBounds b ob } :World).heap[x]? =w.heap[x]? :=fun ob x hx=>by
    simp [Array.getElem?_setIfInBounds,Ne.symm hx]
   have hk:∀ob,qa5 (fun x=>x=b) w { w1 with heap:=w.heap.setIfInBounds b ob } :=fun ob=>by
    rcases g1 with rfl|rfl <;> exact ⟨rfl,rfl,rfl,by simp,fun x _ hx=>hheap ob x hx⟩
   refine .inr ⟨i',hi',_,_,_,g2,hk _,?_⟩
   have hF:∀ob x,F x→x<w.heap.size→F x∧x<({ w1 with heap:=w.heap.setIfInBounds b ob } :World).heap.size∧({ w1 with heap:=w.heap.setIfInBounds b ob } :World).heap[x]? =w.heap[x]? :=fun ob x hx hlt=>⟨hx,by simp; exact hlt,hheap ob x (hFb x hx)⟩
   have hleft:=qkk h5 hj
   have hge:(qaH es seen)[j]? =some (qaH es seen)[j]:=Array.getElem?_eq_getElem hj
   have hgr:ys[j]? =some ys[j]:=List.getElem?_eq_getElem hjr
   obtain ⟨q1,q2,q3⟩:=hF (.mapIter (some bm) since (seen.push ((qaH es seen)[j]).born) clock) bm h2 h3
   refine .inr ⟨bm,es,clock,since,clock,seen.push ((qaH es seen)[j]).born,by simp [hbl],q1,q2,q3.trans h4,h5,h6,h8,h8,⟨ys.eraseIdx j,hpe,?_,fun i e p hi hp=> ?_⟩,fun p hp=> ?_⟩
   ·rw [←Array.length_toList,hleft,List.length_eraseIdx_of_lt (by simpa using hj),List.length_eraseIdx_of_lt hjr,Array.length_toList]
    omega
   ·rw [←Array.getElem?_toList,hleft] at hi
    have hi:=qfJ hi
    have hp:=qfJ hp
    rw [Array.getElem?_toList] at hi
    obtain ⟨s1,s2,s3,s4⟩:=h10 _ e p hi hp
    exact ⟨s1,s2,s3,s4.1.keep (hF _),s4.2⟩
   ·injection hp with hp
    subst hp
    rw [hei]
    obtain ⟨s1,s2,s3,s4⟩:=h10 j _ _ hge hgr
    refine ⟨_,?_,Array.back?_push,rfl,s1,s2,s3,s4.1.keep (hF _),s4.2⟩
    have:(qaH es seen)[j]∈qaH es seen:=Array.getElem_mem hj
    unfold qaH at this
    exact Array.mem_toList_iff.2 (Array.mem_filter.1 this).1
theorem qoK {pin:List Nat} {I:ItH} {A:qd5} {id:Nat} {ops:Array Oper} {rest:Code} (hpat:qn8 (.seq (.region id ops false) rest)=some I) (hp:qcw pin ops.toList=true) {q:liveDen A.live} {kt vt:Ty} {rem:List (kt.den×vt.den)} {cur:Option (kt.den×vt.den)} {b:Nat}
  (h:qv C (qbr { A with wr:=I.it::A.wr } σ q) a.tmps w own) (hl:(qbr { A with wr:=I.it::A.wr } σ q).length=σ.length) (l1:I.it<σ.length) (l2:I.tn<σ.length) (l3:I.tok<σ.length) (htm:a.tmps.getD I.it undef=ptr b 0) (hown:own I.it=[b]) (hit:qb0 w (C.free w own) kt vt rem cur b)
  {Q:Exit→Act→World→Prop} (hQ0:rem=[]→∀a' w' own',qaP pin a a'→qv C (itS I A σ q (.itr kt vt [] none) false) a'.tmps w' own'→Q .normal a' w')
  (hQ1:∀(j:Nat) (hj:j<rem.length) (a':Act) (w':World) (own':Nat→List Nat),qaP pin a a'→qv C (itS I A σ q (.itr kt vt (rem.eraseIdx j) (some rem[j])) true) a'.tmps w' own'→Q .normal a' w'):(Code.region id ops false).wp C.P Q a w:=by
 unfold qn8 at hpat
 simp only at hpat
 split at hpat
 case h_2=>cases hpat
 rename_i o1 o2 hops
 split at hpat
 case h_2=>cases hpat
 rename_i tn it tok tn' gd1 d1 op1 gd2 d2 op2
 split at hpat
 case isFalse=>cases hpat
 rename_i hc
 obtain ⟨rfl,n1,n2,n3⟩:=hc
 injection hpat with hpat
 subst hpat
 simp only at h hl l1 l2 l3 htm hown hQ0 hQ1
 refine wp_region_list ?_
 rw [hops]
 rw [hops] at hp
 simp only [qcw,List.all_cons,List.all_nil,Bool.and_true,Bool.and_eq_true] at hp
 have p1:=qbp hp.1
 have p2:=qbp hp.2
 rw [d1] at p1
 rw [d2] at p2
 have htn:tn'∉pin:=p1 tn' (by simp)
 have htok:tok∉pin:=p2 tok (by simp)
 have ev:a.eval (.tmp it)=ptr b 0:=htm
 have key:∀(av:AV) (vt0:Value) (bb:Bool) (w':World),(∃r,vt0= .tuple (#[.bool bb]++r))→(∀X':Sit,X'.w=w'→(∀x,C.free w own x→X'.F x)→qL X' av (ptr b 0) [b])→av.mentions=[]→qa5 (fun x=>x=b) w w'→
   ∃own',qv C (itS ⟨it,tn',tok⟩ A σ q av bb) ((a.tmps.setIfInBounds tn' vt0).setIfInBounds tok (.bool bb)) w' own':=fun av vt0 bb w' _ hrep hmen hk=>by
  let nb:Nat→List Nat:=fun x=>if x=it then [b] else []
  have nI:nb it=[b]:=by simp [nb]
  have nT:nb tn'=[]:=by simp [nb,Ne.symm n2]
  have nK:nb tok=[]:=by simp [nb,Ne.symm n3]
  have mem:∀u:U,u∈([⟨it,true,av⟩,⟨tn',true,.undef⟩,⟨tok,true,.val .bool bb⟩]:List U)→u=⟨it,true,av⟩∨u=⟨tn',true,.undef⟩∨u=⟨tok,true,.val .bool bb⟩:=fun u hu=>by simpa using hu
  have hsz:=h.size
  rw [hl] at hsz
  have hblt:=hit.lt
  have g1:((a.tmps.setIfInBounds tn' vt0).setIfInBounds tok (.bool bb)).getD it undef=ptr b 0:=by
   rw [qB _ _ n3,qB _ _ n2]
   exact htm
  have g3:((a.tmps.setIfInBounds tn' vt0).setIfInBounds tok (.bool bb)).getD tok undef= .bool bb:=qaj _ _ (by simp; omega)
  have e1:itS ⟨it,tn',tok⟩ A σ q av bb=qa (qbr { A with wr:=it::A.wr } σ q) [⟨it,true,av⟩,⟨tn',true,.undef⟩,⟨tok,true,.val .bool bb⟩]:=rfl
  rw [e1]
  refine Exists.elim (h.multi (tm':=(a.tmps.setIfInBounds tn' vt0).setIfInBounds tok (.bool bb)) (w':=w') [⟨it,true,av⟩,⟨tn',true,.undef⟩,⟨tok,true,.val .bool bb⟩] nb (by simp [n1,n2,n3]) (fun u hu=> ?_) (by simp) (fun x hx=> ?_) (fun u hu=> ?_) (hk.mono fun x hx=>⟨⟨it,true,av⟩,by simp,by show x∈own it; rw [hown,hx]; simp⟩) (fun u hu=> ?_) (fun u hu u' hu' x hx hx'=> ?_) (fun X' hP hpn hw hF hF2 hver htm' u hu=> ?_) (fun u hu m hm=> ?_)) fun own' hfin=>⟨own',hfin.1⟩
  ·rw [hl]
   rcases mem u hu with rfl|rfl|rfl
   ·exact l1
   ·exact l2
   ·exact l3
  ·have hx:x≠it∧x≠tn'∧x≠tok:=by simpa using hx
   rw [qB _ _ hx.2.2,qB _ _ hx.2.1]
  ·rcases mem u hu with rfl|rfl|rfl <;> exact .inl rfl
  ·rcases mem u hu with rfl|rfl|rfl
   ·simp only [nI]
    exact ⟨fun x hx=> .inr ⟨⟨it,true,av⟩,by simp,by show x∈own it; rw [hown]; exact hx⟩,by simp⟩
   ·simp only [nT]
    exact ⟨fun x hx=>(by cases hx),List.nodup_nil⟩
   ·simp only [nK]
    exact ⟨fun x hx=>(by cases hx),List.nodup_nil⟩
  ·rcases mem u hu with rfl|rfl|rfl <;> rcases mem u' hu' with rfl|rfl|rfl <;> first|rfl|(simp only [nT] at hx; cases hx)|(simp only [nK] at hx; cases hx)|(simp only [nT] at hx'; cases hx')|(simp only [nK] at hx'; cases hx')
  ·rcases mem u hu with rfl|rfl|rfl
   ·simp only [nI,g1]
    exact hrep X' hw hF
   ·trivial
   ·simp only [nK,g3]
    exact ⟨rfl,qO.ofBool _ _ _⟩
  ·rcases mem u hu with rfl|rfl|rfl
   ·simp only [hmen] at hm; cases hm
   ·cases hm
   ·cases hm
 have kp:∀(v1 v2:Value),qaP pin a ((a.put (some tn') v1).put (some tok) v2):=fun v1 v2=>⟨rfl,fun s hs=>by
  show ((a.tmps.setIfInBounds tn' v1).setIfInBounds tok v2).getD s undef=a.tmps.getD s undef
  rw [qB _ _ (fun e:s=tok=>htok (by rw [←e]; exact hs)),qB _ _ (fun e:s=tn'=>htn (by rw [←e]; exact hs))]⟩
 have step:∀(ar:Array Value) (bb:Bool) (w':World),(Instr.next (ptr b 0) false o1.type).run C.P w= .ok (.tuple ar) w'→ar[0]? =some (.bool bb)→Q .normal ((a.put (some tn') (.tuple ar)).put (some tok) (.bool bb)) w'→wpList C.P ops Q [o1,o2] a w:=fun ar bb w' hrun hv0 hq=>by
  refine wpList_plain gd1 fun K hK=> ?_
  unfold Oper.wp
  have hx:(execOp a.eval o1).run C.P w= .ok (.value (.tuple ar)) w':=by
   unfold execOp
   rw [op1]
   simp only [Sem.run_bind,ev,hrun,Result.andThen_ok]
   rfl
  rw [hx]
  refine hK _ _ ?_
  rw [d1]
  refine wpList_plain gd2 fun K2 hK2=> ?_
  unfold Oper.wp
  have ev2:(a.put (some tn') (.tuple ar)).eval (.tmp tn')= .tuple ar:=by
   show (a.tmps.setIfInBounds tn' (.tuple ar)).getD tn' undef=_
   exact qaj _ _ (by have:=h.size; omega)
  have hx2:(execOp (a.put (some tn') (.tuple ar)).eval o2).run C.P w'= .ok (.value (.bool bb)) w':=by
   unfold execOp
   rw [op2]
   simp [Sem.run_bind,ev2,Instr.extract,hv0]
  rw [hx2]
  refine hK2 _ _ ?_
  rw [d2]
  exact hq
 have hFb:∀x,C.free w own x→x≠b:=fun x hx e=>hx.2.2 it (by rw [hown,e]; simp)
 rcases hit.next (P:=C.P) o1.type hFb with ⟨r1,r2⟩|⟨j,hj,v1,v2,w',r1,r2,r3⟩
 ·obtain ⟨own',hs⟩:=key (.itr kt vt [] none) (.tuple #[.bool false]) false w ⟨#[],rfl⟩ (fun X' hw hF=>⟨b,rfl,rfl,by
   rw [hw]
   rw [r1] at hit
   rcases hit with ⟨x,s,y,h1,_,_⟩|⟨bm,es,clock,since,c0,seen,h1,h2,h3,h4,h5,h6,h7,h8,⟨ys,hyp,h9,h10⟩,h11⟩
   ·exact .inl ⟨x,s,y,h1,rfl,rfl⟩
   ·exact .inr ⟨bm,es,clock,since,c0,seen,h1,hF _ h2,h3,h4,h5,h6,h7,h8,⟨ys,hyp,h9,(by intro i e p hi hp; rw [hyp.eq_nil] at hp; cases hp)⟩,(by intro p hp; cases hp)⟩⟩) rfl (qa5.refl _ _)
  exact step #[.bool false] false w r2 rfl (hQ0 r1 _ w own' (kp _ _) hs)
 ·obtain ⟨own',hs⟩:=key (.itr kt vt (rem.eraseIdx j) (some rem[j])) (.tuple #[.bool true,v1,v2]) true w' ⟨#[v1,v2],rfl⟩ (fun X' hw hF=>⟨b,rfl,rfl,by
   rw [hw]
   exact r3.keep (fun x hx hlt=>⟨hF x hx,hlt,rfl⟩) rfl⟩) rfl r2
  exact step #[.bool true,v1,v2] true w' r1 rfl (hQ1 j hj _ w' own' (kp _ _) hs)
end
end Go.Vi
namespace Go.Vi
open Go.RowKit
section
variable {C:Ctx} {E:Env} {σ τ:St} {tm:Array Value} {a:Act} {w w':World} {own:Nat→List Nat} {o:Oper} {p:qdR} [Tabbed E C]
theorem qhH {wr:List Nat} {ops:Array Oper} :(l:List Oper)→ {σ σ':St} → {c c':List Bool} → {fs fs':List qcc} →qaM E wr ops l σ c fs=some (σ',c',fs')→(∀f∈fs,∀s∈f.wr,s∈wr)→∀f∈fs',∀s∈f.wr,s∈wr
 |[],σ,σ',c,c',fs,fs',he,h=>by
  simp only [qaM,Option.some.injEq,Prod.mk.injEq] at he
  obtain ⟨rfl,rfl,rfl⟩:=he
  exact h
 |o::r,σ,σ',c,c',fs,fs',he,h=>by
  simp only [qaM] at he
  split at he
  ·cases he
  rename_i g hg
  split at he
  ·cases he
  rename_i f hf
  split at he
  case isFalse=>cases he
  rename_i hu
  refine qhH r he fun f' hf' s hs=> ?_
  rcases List.mem_cons.1 hf' with rfl|hf'
  ·obtain ⟨u,hm,rfl⟩:=List.mem_map.1 hs
   have:=List.all_eq_true.1 hu u hm
   simp at this
   exact this.1
  ·exact h f' hf' s hs
theorem qie {wr:List Nat} {ops:Array Oper} {d:Bool} {σ':St} {c:List Bool} {ds:List Nat} (he:qb1 E wr ops d σ=some (σ',c,ds)):∀s∈ds,s∈wr:=by
 unfold qb1 at he
 split at he
 case h_2=>cases he
 rename_i σ1 c1 fs h1
 split at he
 case isFalse=>cases he
 injection he with he
 simp only [Prod.mk.injEq] at he
 obtain ⟨rfl,rfl,rfl⟩:=he
 intro s hs
 obtain ⟨f,hf,hs⟩:=List.mem_flatMap.1 hs
 exact qhH ops.toList h1 (fun f hf=>by cases hf) f hf s hs
theorem qmS (hpc:qjY C a.tmps) (h:qv C σ a.tmps w own) {c:Operand} {x:Bool} {ow:List Nat} (he:Q.run (qb σ) ((opd E [] 0 c).bind qhk)=some ⟨.bool,x,ow⟩):a.eval c= .bool x:=by
 obtain ⟨o1,h1,h2⟩:=Q.bind_some he
 exact qO.bool (qbE h (qN h ⟨hpc,fun q hq=>by cases hq⟩ h1) h2)
theorem qmE {σ:St} {own:Nat→List Nat} (l:List Nat) (s:Nat) (h:qv C σ tm w own):∃own',qv C (ql2 l σ s) tm w own':=by
 unfold ql2
 split
 ·rename_i av t hr
  split
  ·exact h.refill hr
  ·exact ⟨own,h⟩
 ·exact ⟨own,h⟩
theorem qmD {wr l:List Nat} {σ:St} {s:Nat} (hl:∀t∈l,t∈wr) (hs:s∈wr):Fr wr σ (ql2 l σ s):=by
 unfold ql2
 split
 ·rename_i av t hr
  split
  ·rename_i ht
   refine qa6 _ fun u hu=> ?_
   rcases List.mem_cons.1 hu with rfl|hu
   ·exact hs
   ·rw [List.mem_singleton.1 hu]
    exact hl t (by simpa using ht)
  ·exact Fr.refl _ _
 ·exact Fr.refl _ _
theorem ql5 (l0:List Nat):(l:List Nat)→ {σ:St} → {own:Nat→List Nat} →qv C σ tm w own→∃own',qv C (l.foldl (ql2 l0) σ) tm w own'
 |[],_,own,h=>⟨own,h⟩
 |s::l,σ,own,h=>by
  obtain ⟨own1,h1⟩:=qmE l0 s h
  exact ql5 l0 l h1
theorem qnR (l:List Nat) {σ:St} {own:Nat→List Nat} (h:qv C σ tm w own):∃own',qv C (qne l σ) tm w own':=ql5 l l h
theorem qlY {wr l0:List Nat} (hl:∀t∈l0,t∈wr):(l:List Nat)→ {σ:St} →(∀s∈l,s∈wr)→Fr wr σ (l.foldl (ql2 l0) σ)
 |[],σ,_=>Fr.refl _ _
 |s::l,σ,h=>(qmD hl (h s List.mem_cons_self)).trans (qlY hl l fun s' hs=>h s' (List.mem_cons_of_mem _ hs))
theorem qnn {wr:List Nat} (l:List Nat) {σ:St} (h:∀s∈l,s∈wr):Fr wr σ (qne l σ):=qlY h l h
theorem qbW:(l:List Nat)→ {σ:St} → {own:Nat→List Nat} →qv C σ tm w own→∃own',qv C (qeF l σ) tm w own'
 |[],_,own,h=>⟨own,h⟩
 |s::l,σ,own,h=>by
  obtain ⟨own1,h1,_⟩:=h.freeze s
  exact qbW l h1
theorem qb2 {wr:List Nat} :(l:List Nat)→ {σ:St} →(∀s∈l,s∈wr)→Fr wr σ (qeF l σ)
 |[],σ,_=>Fr.refl _ _
 |s::l,σ,h=>by
  have h1:Fr wr σ (qa σ [⟨s,false,(qb σ s).2.freeze⟩]):=qa6 _ fun u hu=>by
   rw [List.mem_singleton.1 hu]
   exact h s List.mem_cons_self
  exact h1.trans (qb2 l fun s' hs=>h s' (List.mem_cons_of_mem _ hs))
theorem qlA {σ:St} {own:Nat→List Nat} (s:Nat) (h:qv C σ tm w own):∃own',qv C (qgI σ s) tm w own':=by
 unfold qgI
 split
 ·rename_i t x hs
  obtain ⟨own',h1,_⟩:=h.expose (u:=t) (x:=x) (f:=false) hs rfl (by simp [BC.get,Ty.sub_self])
  exact ⟨own',h1⟩
 ·exact ⟨own,h⟩
theorem qgG:(l:List Nat)→ {σ:St} → {own:Nat→List Nat} →qv C σ tm w own→∃own',qv C (qgf l σ) tm w own'
 |[],_,own,h=>⟨own,h⟩
 |s::l,σ,own,h=>by
  obtain ⟨own1,h1⟩:=qlA s h
  exact qgG l h1
theorem qgY {wr:List Nat} :(l:List Nat)→ {σ:St} →(∀s∈l,s∈wr)→Fr wr σ (qgf l σ)
 |[],σ,_=>Fr.refl _ _
 |s::l,σ,h=>by
  have h1:Fr wr σ (qgI σ s):=by
   unfold qgI
   split
   ·rename_i t x _
    exact qa6 [⟨s,true,.view t x 0⟩] fun u hu=>by
     rw [List.mem_singleton.1 hu]
     exact h s List.mem_cons_self
   ·exact Fr.refl _ _
  exact h1.trans (qgY l fun s' hs=>h s' (List.mem_cons_of_mem _ hs))
theorem qc3 {σ1 σ2:St} :(l:List Nat)→∀s∈qfq σ1 σ2 l,s∈l
 |[],s,h=>h
 |x::l,s,h=>by
  simp only [qfq] at h
  split at h
  ·rcases List.mem_cons.1 h with rfl|h
   ·exact List.mem_cons_self
   ·exact List.mem_cons_of_mem _ (qc3 l s h)
  ·exact List.mem_cons_of_mem _ (qc3 l s h)
theorem qoF (p:Nat×qbV) {σ:St} {own:Nat→List Nat} (h:qv C σ tm w own):∃own',qv C (fix1 p σ) tm w own':=by
 unfold fix1
 split
 ·exact h.refit p.2 p.1
 ·exact ⟨own,h⟩
theorem qg4 (wr:List Nat):(l:List (Nat×qbV))→ {σ:St} → {own:Nat→List Nat} →qv C σ tm w own→∃own',qv C (qkh wr l σ) tm w own'
 |[],_,own,h=>⟨own,h⟩
 |p::l,σ,own,h=>by
  obtain ⟨own1,h1⟩:=qmE wr p.1 h
  obtain ⟨own2,h2⟩:=qoF p h1
  exact qg4 wr l h2
theorem qe5 {wr:List Nat} : {l:List (Nat×qbV)} → {σ:St} →(h:∀q∈l,q.1∈wr)→Fr wr σ (qkh wr l σ)
 |[],σ,_=>Fr.refl _ _
 |p::l,σ,h=>by
  have h1:Fr wr σ (ql2 wr σ p.1):=qmD (fun t ht=>ht) (h p List.mem_cons_self)
  have h2:Fr wr (ql2 wr σ p.1) (fix1 p (ql2 wr σ p.1)):=by
   unfold fix1
   split
   ·exact qa6 [⟨p.1,false,_⟩] fun u hu=>by
     rw [List.mem_singleton.1 hu]
     exact h p List.mem_cons_self
   ·exact Fr.refl _ _
  exact (h1.trans h2).trans (qe5 fun q hq=>h q (List.mem_cons_of_mem _ hq))
theorem qdi {wr:List Nat} {ops:Array Oper} {s:Nat} {v:Bool} :(l:List Oper)→ {σ σ':St} → {c c':List Bool} → {ds ds':List Nat} →qfe E wr ops s v l σ c ds=some (σ',c',ds')→
  Fr wr σ σ'∧(∀b∈c,b∈c')∧(∀x∈ds,x∈ds')∧Fr ds' σ σ'∧((∀x∈ds,x∈wr)→∀x∈ds',x∈wr)
 |[],σ,σ',c,c',ds,ds',he=>by
  simp only [qfe,Option.some.injEq,Prod.mk.injEq] at he
  obtain ⟨rfl,rfl,rfl⟩:=he
  exact ⟨Fr.refl _ _,fun _ h=>h,fun _ h=>h,Fr.refl _ _,fun h=>h⟩
 |o::r,σ,σ',c,c',ds,ds',he=>by
  simp only [qfe] at he
  split at he
  ·cases he
  split at he
  ·cases he
  rename_i g hg
  split at he
  ·cases he
  rename_i f hf
  split at he
  case isFalse=>cases he
  rename_i hu
  obtain ⟨h1,h3,h4,h5,h6⟩:=qdi r he
  have hu':∀u∈f.upd,u.s∈wr:=fun u hm=>by
   have:=List.all_eq_true.1 hu u hm
   simp at this
   exact this.1
  refine ⟨(qa6 f.upd hu').trans h1,fun b hb=>h3 b (List.mem_append_left _ hb),fun x hx=>h4 x (List.mem_append_left _ hx),(qa6 f.upd fun u hm=>h4 _ (List.mem_append_right _ (List.mem_map_of_mem hm))).trans h5,fun hw=>h6 fun x hx=> ?_⟩
  rcases List.mem_append.1 hx with hx|hx
  ·exact hw x hx
  ·obtain ⟨u,hu1,rfl⟩:=List.mem_map.1 hx
   exact hu' u hu1
theorem qoC (hE:qai E C.P) {pin:List Nat} (hF:qfh E C pin) (hpc:qjY C a.tmps) (h:qv C σ a.tmps w own) {ops:Array Oper} {g:Option (Nat×Bool)} (hg:qbv ops o=some g) {s:Nat} {v:Bool} (hv:a.tmps.getD s undef= .bool v) {f:Eff}
  (he:(knOp E s v g o).run (qb σ)=some f) (hd:∀u∈f.upd,u.s<σ.length) (hc:qbg f.chk):GOpOk C ops o a w (qa σ f.upd):=by
 cases g with
 |none=>
  unfold knOp at he
  simp only at he
  split at he
  case h_2=>exact qc6 hE hF hpc h hg he hd hc
  rename_i c x y hop hgd
  split at he
  case isFalse=>exact qc6 hE hF hpc h hg he hd hc
  rename_i hcs
  subst hcs
  obtain ⟨x1,h1,he⟩:=Q.bind_some he
  intro K Q1 hK
  have hw:Region.wanted o (yielded ops a.tmps)=true:=by simp [Region.wanted,hgd]
  rw [if_pos hw]
  have hev:a.eval (.tmp c)= .bool v:=hv
  have hx:(execOp a.eval o).run C.P w= .ok (.value (a.eval (bif v then x else y))) w:=by
   unfold execOp
   rw [hop]
   simp only [hev]
   cases v <;> rfl
  exact qiO h (qN h ⟨hpc,fun q hq=>by cases hq⟩ h1) (qjl h h1) (qib h1) hpc hF.pins he hd hx K Q1 hK
 |some q=>
  obtain ⟨s',want⟩:=q
  unfold knOp at he
  simp only at he
  split at he
  case isFalse=>exact qc6 hE hF hpc h hg he hd hc
  rename_i hs
  subst hs
  unfold qbv at hg
  split at hg
  ·cases hg
  rename_i j want' hgd
  split at hg
  case h_2=>cases hg
  rename_i s2 hj
  injection hg with hg
  injection hg with hg
  injection hg with hg1 hg2
  subst hg1
  subst hg2
  have hw:Region.wanted o (yielded ops a.tmps)=true↔a.tmps.getD s2 undef= .bool want':=by
   rw [←qhM hj want']
   simp [Region.wanted,hgd]
  intro K Q1 hK
  split at he
  ·rename_i hwv
   subst hwv
   rw [if_pos (hw.2 hv)]
   obtain ⟨f0,h0,he⟩:=Q.bind_some he
   exact qia h (fun hd hc=>qj6 hE hF.fns hF.pins h ⟨hpc,fun q hq=>by cases hq⟩ h0 hd hc) he hd hc K Q1 hK
  ·rename_i hwv
   rw [if_neg fun hh=>hwv (by
    have:=hw.1 hh
    rw [hv] at this
    injection this with this
    exact this.symm)]
   have:=qg he
   subst this
   obtain ⟨own',hst⟩:=h.dst0 (o:=o) (av:= .undef) (v:=undef) hd trivial (fun m hm=>by cases hm)
   exact hK _ _ own' (qc9 o a _) hst
theorem qhj (hE:qai E C.P) {pin wr:List Nat} (hF:qfh E C pin) {ops:Array Oper} {s:Nat} {v:Bool} {Q:Exit→Act→World→Prop} :(l:List Oper)→qcw pin l=true→ {σ σ':St} → {a:Act} → {w:World} → {own:Nat→List Nat} → {c c':List Bool} → {ds ds':List Nat} →
  qfe E wr ops s v l σ c ds=some (σ',c',ds')→qbg c'→qjY C a.tmps→a.tmps.getD s undef= .bool v→qv C σ a.tmps w own→(∀a' w' own',qaP pin a a'→qv C σ' a'.tmps w' own'→Q .normal a' w')→wpList C.P ops Q l a w
 |[],_,σ,σ',a,w,own,c,c',ds,ds',he,_,_,_,h,hQ=>by
  simp only [qfe,Option.some.injEq,Prod.mk.injEq] at he
  obtain ⟨rfl,_,_⟩:=he
  exact hQ a w own (qaP.refl _ _) h
 |o::r,hp,σ,σ',a,w,own,c,c',ds,ds',he,hc,hpc,hv,h,hQ=>by
  simp only [qcw,List.all_cons,Bool.and_eq_true] at hp
  simp only [qfe] at he
  split at he
  ·cases he
  rename_i hds
  split at he
  ·cases he
  rename_i g hg
  split at he
  ·cases he
  rename_i f hf
  split at he
  case isFalse=>cases he
  rename_i hu
  have hu':∀u∈f.upd,u.s<σ.length:=fun u hm=>by
   have:=List.all_eq_true.1 hu u hm
   simp at this
   exact this.2
  obtain ⟨_,h3,_,_,_⟩:=qdi r he
  have hcf:qbg f.chk:=fun b hb=>hc b (h3 b (List.mem_append_right _ hb))
  have hok:=qoC hE hF hpc h hg hv hf hu' hcf (wpList C.P ops Q r) Q fun a' w' own' hd hst=>by
   have hk:qaP pin a a':=⟨hd.1,fun s hs=>hd.2 s fun e=>qbp hp.1 s (by simp [e]) hs⟩
   exact qhj hE hF r hp.2 he hc (hk.pinC hF hpc) ((hd.2 s hds).trans hv) hst fun a2 w2 own2 hd2 hst2=>hQ a2 w2 own2 (hd2.trans hk) hst2
  unfold wpList
  split at hok
  ·rename_i hw
   rw [if_pos hw]
   exact .inl hok
  ·rename_i hw
   rw [if_neg hw]
   exact hok
theorem qgt {wr:List Nat} {ops:Array Oper} :(l:List Oper)→ {σ σ':St} → {c c':List Bool} → {fs fs':List qcc} →qaM E wr ops l σ c fs=some (σ',c',fs')→(∀x∈fs.flatMap (·.wr),x∈wr)→∀x∈fs'.flatMap (·.wr),x∈wr
 |[],σ,σ',c,c',fs,fs',he,hw=>by
  simp only [qaM,Option.some.injEq,Prod.mk.injEq] at he
  obtain ⟨rfl,rfl,rfl⟩:=he
  exact hw
 |o::r,σ,σ',c,c',fs,fs',he,hw=>by
  simp only [qaM] at he
  split at he
  ·cases he
  split at he
  ·cases he
  rename_i f hf
  split at he
  case isFalse=>cases he
  rename_i hu
  refine qgt r he fun x hx=> ?_
  rw [List.flatMap_cons] at hx
  rcases List.mem_append.1 hx with hx|hx
  ·obtain ⟨u,hu1,rfl⟩:=List.mem_map.1 hx
   have:=List.all_eq_true.1 hu u hu1
   simp at this
   exact this.1
  ·exact hw x hx
theorem qgM {b:Bool} {c d:List Bool} (h:qbg (qiT b c d)):qbg (bif b then c else d):=by
 unfold qiT at h
 split at h
 ·cases b <;> exact fun x hx=>by cases hx
 ·have:=h _ (List.mem_singleton.2 rfl)
  cases b
  ·exact qgi this
  ·exact qgi this
theorem qjk {wr:List Nat} {ops:Array Oper} {i:Nat} {σ':St} {c:List Bool} {ds:List Nat} (he:qek E wr ops i σ=some (σ',c,ds)):Fr wr σ σ'∧Fr ds σ σ'∧∀s∈ds,s∈wr:=by
 unfold qek at he
 split at he
 ·cases he
 rename_i σ1 c1 fs h1
 split at he
 case h_2=>cases he
 rename_i s want hg
 split at he
 case h_2=>cases he
 rename_i b hb
 split at he
 case h_2=>cases he
 rename_i σT cT dT σF cF dF hT hF
 injection he with he
 simp only [Prod.mk.injEq] at he
 obtain ⟨rfl,rfl,rfl⟩:=he
 obtain ⟨k1,_,_,_,k5⟩:=qdf _ h1
 obtain ⟨_,_,_,_,t6⟩:=qdi _ hT
 obtain ⟨_,_,_,_,f6⟩:=qdi _ hF
 have hsub:∀x∈dT++dF,x∈wr:=fun x hx=>by
  rcases List.mem_append.1 hx with hx|hx
  ·exact t6 (fun x hx=>by cases hx) x hx
  ·exact f6 (fun x hx=>by cases hx) x hx
 refine ⟨k1.trans (qfo hsub),(k5.mono fun x hx=>List.mem_append_left _ hx).trans (qfo fun x hx=>List.mem_append_right _ hx),fun x hx=> ?_⟩
 rcases List.mem_append.1 hx with hx|hx
 ·exact qgt _ h1 (fun x hx=>by cases hx) x hx
 ·exact hsub x hx
theorem qhG {wr sp:List Nat} {ops:Array Oper} {d:Bool} {σ':St} {c:List Bool} {ds:List Nat} (he:qfD E wr sp ops d σ=some (σ',c,ds)):Fr wr σ σ'∧Fr ds σ σ'∧∀s∈ds,s∈wr:=by
 unfold qfD at he
 split at he
 ·obtain ⟨h1,_,h3⟩:=qiP he
  exact ⟨h1,h3,qie he⟩
 ·exact qjk he
 ·cases he
theorem qgr (hE:qai E C.P) {pin wr:List Nat} (hF:qfh E C pin) {ops:Array Oper} {Q:Exit→Act→World→Prop} (rest:List Oper):(l:List Oper)→qcw pin l=true→ {σ σ':St} → {a:Act} → {w:World} → {own:Nat→List Nat} → {c c':List Bool} → {fs fs':List qcc} →
  qaM E wr ops l σ c fs=some (σ',c',fs')→qbg c'→qjY C a.tmps→qv C σ a.tmps w own→(∀a' w' own',qaP pin a a'→qv C σ' a'.tmps w' own'→wpList C.P ops Q rest a' w')→wpList C.P ops Q (l++rest) a w
 |[],_,σ,σ',a,w,own,c,c',fs,fs',he,_,_,h,hQ=>by
  simp only [qaM,Option.some.injEq,Prod.mk.injEq] at he
  obtain ⟨rfl,_,_⟩:=he
  exact hQ a w own (qaP.refl _ _) h
 |o::r,hp,σ,σ',a,w,own,c,c',fs,fs',he,hc,hpc,h,hQ=>by
  simp only [qcw,List.all_cons,Bool.and_eq_true] at hp
  simp only [qaM] at he
  split at he
  ·cases he
  rename_i g hg
  split at he
  ·cases he
  rename_i f hf
  split at he
  case isFalse=>cases he
  rename_i hu
  have hu':∀u∈f.upd,u.s<σ.length:=fun u hm=>by
   have:=List.all_eq_true.1 hu u hm
   simp at this
   exact this.2
  obtain ⟨_,_,h3,_,_⟩:=qdf r he
  have hcf:qbg f.chk:=fun b hb=>hc b (h3 b (List.mem_append_right _ hb))
  have hok:=qc6 hE hF hpc h hg hf hu' hcf (wpList C.P ops Q (r++rest)) Q fun a' w' own' hd hst=>by
   have hk:qaP pin a a':=⟨hd.1,fun s hs=>hd.2 s fun e=>qbp hp.1 s (by simp [e]) hs⟩
   exact qgr hE hF rest r hp.2 he hc (hk.pinC hF hpc) hst fun a2 w2 own2 hd2 hst2=>hQ a2 w2 own2 (hd2.trans hk) hst2
  show wpList C.P ops Q (o::(r++rest)) a w
  unfold wpList
  split at hok
  ·rename_i hw
   rw [if_pos hw]
   exact .inl hok
  ·rename_i hw
   rw [if_neg hw]
   exact hok
theorem qjQ (hE:qai E C.P) {pin wr:List Nat} (hF:qfh E C pin) {id:Nat} {ops:Array Oper} {i:Nat} {Q:Exit→Act→World→Prop} {σ':St} {c:List Bool} {ds:List Nat} (hp:qcw pin ops.toList=true) (he:qek E wr ops i σ=some (σ',c,ds)) (hc:qbg c) (hpc:qjY C a.tmps) (h:qv C σ a.tmps w own)
  (hQ:∀a' w' own',qaP pin a a'→qv C σ' a'.tmps w' own'→Q .normal a' w'):(Code.region id ops false).wp C.P Q a w:=by
 unfold qek at he
 split at he
 ·cases he
 rename_i σ1 c1 fs h1
 split at he
 case h_2=>cases he
 rename_i s want hg
 split at he
 case h_2=>cases he
 rename_i b hb
 split at he
 case h_2=>cases he
 rename_i σT cT dT σF cF dF hT hFF
 injection he with he
 simp only [Prod.mk.injEq] at he
 obtain ⟨rfl,rfl,rfl⟩:=he
 have hsub:∀l:List Oper,(∀x∈l,x∈ops.toList)→qcw pin l=true:=fun l hl=>List.all_eq_true.2 fun x hx=>List.all_eq_true.1 hp x (hl x hx)
 have hch:qbg (bif b then cT else cF):=qgM fun x hx=>hc x (List.mem_append_right _ hx)
 have key:=qgr (Q:=Q) hE hF (ops.toList.drop i) (ops.toList.take i) (hsub _ fun x hx=>List.mem_of_mem_take hx) h1 (fun x hx=>hc x (List.mem_append_left _ hx)) hpc h fun a1 w1 own1 hd1 hst1=>by
  have hat:=hst1.at_ s
  rw [hb] at hat
  have hv:a1.tmps.getD s undef= .bool b:=qO.bool hat.2
  have z1:=(qdi _ hT).2.2.2.1.mono (wr':=dT++dF) fun s hs=>List.mem_append_left _ hs
  have z2:=(qdi _ hFF).2.2.2.1.mono (wr':=dT++dF) fun s hs=>List.mem_append_right _ hs
  have y1:=z1.trans (qb2 (qfq σT σF (dT++dF)) (qc3 _))
  have y2:=z2.trans (qb2 (qfq σF σT (dT++dF)) (qc3 _))
  cases b with
  |true=>
   refine qhj hE hF _ (hsub _ fun x hx=>List.mem_of_mem_drop hx) hT hch (hd1.pinC hF hpc) hv hst1 fun a2 w2 own2 hd2 hst2=> ?_
   obtain ⟨own3,hst3⟩:=qbW (qfq σT σF (dT++dF)) hst2
   exact hQ a2 w2 own3 (hd2.trans hd1) (qv.join (b:=true) hst3 y1 y2)
  |false=>
   refine qhj hE hF _ (hsub _ fun x hx=>List.mem_of_mem_drop hx) hFF hch (hd1.pinC hF hpc) hv hst1 fun a2 w2 own2 hd2 hst2=> ?_
   obtain ⟨own3,hst3⟩:=qbW (qfq σF σT (dT++dF)) hst2
   exact hQ a2 w2 own3 (hd2.trans hd1) (qv.join (b:=false) hst3 y1 y2)
 rw [List.take_append_drop] at key
 exact wp_region_list key
theorem qhU (hE:qai E C.P) {pin wr sp:List Nat} (hF:qfh E C pin) {id:Nat} {ops:Array Oper} {d:Bool} {Q:Exit→Act→World→Prop} {σ':St} {c:List Bool} {ds:List Nat} (hp:qcw pin ops.toList=true) (he:qfD E wr sp ops d σ=some (σ',c,ds)) (hc:qbg c) (hpc:qjY C a.tmps) (h:qv C σ a.tmps w own)
  (hQ:∀a' w' own',qaP pin a a'→qv C σ' a'.tmps w' own'→Q .normal a' w'):(Code.region id ops d).wp C.P Q a w:=by
 unfold qfD at he
 split at he
 ·exact qis hE hF hp he hc hpc h hQ
 ·exact qjQ hE hF hp he hc hpc h hQ
 ·cases he
theorem qmZ {frz:List (Nat×List Nat)} {wr:List Nat} {id:Nat} {ops:Array Oper} {d:Bool} {σ':St} {c:List Bool} {ds:List Nat} (he:regE E frz wr id ops d σ=some (σ',c,ds)):Fr wr σ σ'∧Fr ds σ σ'∧∀s∈ds,s∈wr:=by
 unfold regE at he
 split at he
 ·exact qhG he
 ·rename_i fz _
  split at he
  case isFalse=>cases he
  rename_i hall
  split at he
  case h_2=>cases he
  rename_i σ1 c1 d1 h1
  injection he with he
  simp only [Prod.mk.injEq] at he
  obtain ⟨rfl,rfl,rfl⟩:=he
  obtain ⟨g1,g3,g4⟩:=qhG h1
  simp only [Bool.and_eq_true] at hall
  have hsub:∀s∈qaJ frz (some (id+3000000000))++qaJ frz (some id),s∈wr:=fun s hs=>by
   have:=List.all_eq_true.1 hall.1 s hs
   simpa using this
  have hex:∀s∈qaJ frz (some (id+2000000000)),s∈qaJ frz (some (id+3000000000))++qaJ frz (some id):=fun s hs=>by
   have:=List.all_eq_true.1 hall.2 s hs
   simpa using this
  have fz:∀W:List Nat,(∀s∈qaJ frz (some (id+3000000000))++qaJ frz (some id),s∈W)→Fr W σ (qgf (qaJ frz (some (id+2000000000))) (qeF (qaJ frz (some id)) (qne (qaJ frz (some (id+3000000000))) σ))):=fun W hW=>
   ((qnn _ fun s hs=>hW s (List.mem_append_left _ hs)).trans (qb2 _ fun s hs=>hW s (List.mem_append_right _ hs))).trans (qgY _ fun s hs=>hW s (hex s hs))
  refine ⟨(fz wr hsub).trans g1,(fz _ fun s hs=>List.mem_append_left _ hs).trans (g3.mono fun s hs=>List.mem_append_right _ hs),fun s hs=> ?_⟩
  rcases List.mem_append.1 hs with hs|hs
  ·exact hsub s hs
  ·exact g4 s hs
theorem qmW (hE:qai E C.P) {pin:List Nat} (hF:qfh E C pin) {frz:List (Nat×List Nat)} {wr:List Nat} {id:Nat} {ops:Array Oper} {d:Bool} {Q:Exit→Act→World→Prop} {σ':St} {c:List Bool} {ds:List Nat} (hp:qcw pin ops.toList=true) (he:regE E frz wr id ops d σ=some (σ',c,ds)) (hc:qbg c) (hpc:qjY C a.tmps) (h:qv C σ a.tmps w own)
  (hQ:∀a' w' own',qaP pin a a'→qv C σ' a'.tmps w' own'→Q .normal a' w'):(Code.region id ops d).wp C.P Q a w:=by
 unfold regE at he
 split at he
 ·exact qhU hE hF hp he hc hpc h hQ
 ·split at he
  case isFalse=>cases he
  split at he
  case h_2=>cases he
  rename_i σ1 c1 d1 h1
  injection he with he
  simp only [Prod.mk.injEq] at he
  obtain ⟨rfl,rfl,rfl⟩:=he
  obtain ⟨own0,hst0⟩:=qnR (qaJ frz (some (id+3000000000))) h
  obtain ⟨own1,hst⟩:=qbW (qaJ frz (some id)) hst0
  obtain ⟨own2,hst2⟩:=qgG (qaJ frz (some (id+2000000000))) hst
  exact qhU hE hF hp h1 hc hpc hst2 hQ
theorem qfb {frz:List (Nat×List Nat)} {wr:List Nat} :(c:Code)→ {σ σ':St} → {ch:List Bool} → {ds:List Nat} →qlq E frz wr c σ=some (σ',ch,ds)→Fr wr σ σ'∧Fr ds σ σ'∧∀s∈ds,s∈wr
 | .skip,σ,σ',ch,ds,he=>by
  simp only [qlq,Option.some.injEq,Prod.mk.injEq] at he
  obtain ⟨rfl,rfl,rfl⟩:=he
  exact ⟨Fr.refl _ _,Fr.refl _ _,fun s hs=>by cases hs⟩
 | .region _ ops d,σ,σ',ch,ds,he=>by
  exact qmZ he
 | .seq x y,σ,σ',ch,ds,he=>by
  simp only [qlq] at he
  split at he
  case h_2=>cases he
  rename_i σ1 c1 d1 h1
  split at he
  case h_2=>cases he
  rename_i σ2 c2 d2 h2
  injection he with he
  simp only [Prod.mk.injEq] at he
  obtain ⟨rfl,rfl,rfl⟩:=he
  obtain ⟨g1,g2,g3⟩:=qfb x h1
  obtain ⟨k1,k2,k3⟩:=qfb y h2
  refine ⟨g1.trans k1,(g2.mono fun s hs=>List.mem_append_left _ hs).trans (k2.mono fun s hs=>List.mem_append_right _ hs),fun s hs=> ?_⟩
  rcases List.mem_append.1 hs with hs|hs
  ·exact g3 s hs
  ·exact k3 s hs
 | .cond c x y,σ,σ',ch,ds,he=>by
  simp only [qlq] at he
  split at he
  case h_2=>cases he
  split at he
  case h_2=>cases he
  rename_i σ1 c1 d1 σ2 c2 d2 h1 h2
  injection he with he
  simp only [Prod.mk.injEq] at he
  obtain ⟨rfl,rfl,rfl⟩:=he
  obtain ⟨g1,g2,g3⟩:=qfb x h1
  obtain ⟨k1,k2,k3⟩:=qfb y h2
  have hsub:∀s∈d1++d2,s∈wr:=fun s hs=>by
   rcases List.mem_append.1 hs with hs|hs
   ·exact g3 s hs
   ·exact k3 s hs
  exact ⟨qfo hsub,qfo fun s hs=>hs,hsub⟩
 | .label _,_,_,_,_,he=>by cases he
 | .block _ _,_,_,_,_,he=>by cases he
 | .loop _,_,_,_,_,he=>by cases he
 | .exit _,_,_,_,_,he=>by cases he
 | .goto _,_,_,_,_,he=>by cases he
 | .ret,_,_,_,_,he=>by cases he
theorem qgB (hE:qai E C.P) {frz:List (Nat×List Nat)} {pin wr:List Nat} (hF:qfh E C pin):(c:Code)→qeO pin c=true→ {σ σ':St} → {ch:List Bool} → {ds:List Nat} → {Q1:Exit→Act→World→Prop} → {a:Act} → {w:World} → {own:Nat→List Nat} →qlq E frz wr c σ=some (σ',ch,ds)→qbg ch→qjY C a.tmps→qv C σ a.tmps w own→
  (∀a' w' own',qaP pin a a'→qv C σ' a'.tmps w' own'→Q1 .normal a' w')→c.wp C.P Q1 a w
 | .skip,hp,σ,σ',ch,ds,Q1,a,w,own,he,_,hpc,h,hQ=>by
  simp only [qlq,Option.some.injEq,Prod.mk.injEq] at he
  obtain ⟨rfl,rfl,rfl⟩:=he
  exact wp_skip (hQ a w own (qaP.refl _ _) h)
 | .region _ ops d,hp,σ,σ',ch,ds,Q1,a,w,own,he,hc,hpc,h,hQ=>qmW hE hF hp he hc hpc h hQ
 | .seq x y,hp,σ,σ',ch,ds,Q1,a,w,own,he,hc,hpc,h,hQ=>by
  simp only [qlq] at he
  split at he
  case h_2=>cases he
  rename_i σ1 c1 d1 h1
  split at he
  case h_2=>cases he
  rename_i σ2 c2 d2 h2
  injection he with he
  simp only [Prod.mk.injEq] at he
  obtain ⟨rfl,rfl,rfl⟩:=he
  simp only [qeO,Bool.and_eq_true] at hp
  refine wp_seq (qgB hE hF x hp.1 h1 (fun b hb=>hc b (List.mem_append_left _ hb)) hpc h fun a1 w1 own1 hd1 hst1=> ?_)
  exact qgB hE hF y hp.2 h2 (fun b hb=>hc b (List.mem_append_right _ hb)) (hd1.pinC hF hpc) hst1 fun a2 w2 own2 hd2 hst2=>hQ a2 w2 own2 (hd2.trans hd1) hst2
 | .cond c x y,hp,σ,σ',ch,ds,Q1,a,w,own,he,hc,hpc,h,hQ=>by
  simp only [qlq] at he
  split at he
  case h_2=>cases he
  rename_i b ow hb
  split at he
  case h_2=>cases he
  rename_i σ1 c1 d1 σ2 c2 d2 h1 h2
  injection he with he
  simp only [Prod.mk.injEq] at he
  obtain ⟨rfl,rfl,rfl⟩:=he
  have hch:=qgM hc
  simp only [qeO,Bool.and_eq_true] at hp
  have f1:=(qfb x h1).2.1.mono (wr':=d1++d2) fun s hs=>List.mem_append_left _ hs
  have f2:=(qfb y h2).2.1.mono (wr':=d1++d2) fun s hs=>List.mem_append_right _ hs
  refine wp_cond (qmS hpc h hb) ?_
  have z1:=f1.trans (qb2 (qfq σ1 σ2 (d1++d2)) (qc3 _))
  have z2:=f2.trans (qb2 (qfq σ2 σ1 (d1++d2)) (qc3 _))
  cases b with
  |true=>
   refine qgB hE hF x hp.1 h1 hch hpc h fun a1 w1 own1 hd1 hst1=> ?_
   obtain ⟨own2,hst2⟩:=qbW (qfq σ1 σ2 (d1++d2)) hst1
   exact hQ a1 w1 own2 hd1 (qv.join (b:=true) hst2 z1 z2)
  |false=>
   refine qgB hE hF y hp.2 h2 hch hpc h fun a1 w1 own1 hd1 hst1=> ?_
   obtain ⟨own2,hst2⟩:=qbW (qfq σ2 σ1 (d1++d2)) hst1
   exact hQ a1 w1 own2 hd1 (qv.join (b:=false) hst2 z1 z2)
 | .label _,_,_,_,_,_,_,_,_,_,he,_,_,_,_=>by cases he
 | .block _ _,_,_,_,_,_,_,_,_,_,he,_,_,_,_=>by cases he
 | .loop _,_,_,_,_,_,_,_,_,_,he,_,_,_,_=>by cases he
 | .exit _,_,_,_,_,_,_,_,_,_,he,_,_,_,_=>by cases he
 | .goto _,_,_,_,_,_,_,_,_,_,he,_,_,_,_=>by cases he
 | .ret,_,_,_,_,_,_,_,_,_,he,_,_,_,_=>by cases he
theorem qem {R:Type} {c:List Bool} {r:Option R} {x:R} (h:andThen c r=some x):qbg c∧r=some x:=by
 unfold andThen at h
 split at h
 ·refine ⟨fun b hb=> ?_,h⟩
  cases hb
 ·cases hc:qoD c with
  |true=>rw [hc] at h; exact ⟨qgi hc,h⟩
  |false=>rw [hc] at h; cases h
structure KOk {R:Type} (C:Ctx) (pin:List Nat) (k:K R) (r:R) (wr:List Nat) (σ:St) (ds:Act) (Q1:Exit→Act→World→Prop):Prop where
 n:∀σ' a' w' own',Fr wr σ σ'→qaP pin ds a'→qv C σ' a'.tmps w' own'→k.n σ'=some r→Q1 .normal a' w'
 e:∀i σ' a' w' own',Fr wr σ σ'→qaP pin ds a'→qv C σ' a'.tmps w' own'→k.e i σ'=some r→Q1 (.exit i) a' w'
 r:∀σ' a' w' own',Fr wr σ σ'→qaP pin ds a'→qv C σ' a'.tmps w' own'→k.r σ'=some r→Q1 .ret a' w'
theorem KOk.fr {R:Type} {pin:List Nat} {k:K R} {r:R} {wr wr':List Nat} {ds ds':Act} {Q1:Exit→Act→World→Prop} (h:KOk C pin k r wr σ ds Q1) (hd:qaP pin ds ds') (hs:∀s∈wr',s∈wr) (hf:Fr wr σ τ):KOk C pin k r wr' τ ds' Q1:=
 ⟨fun σ' a' w' own' f g=>h.n σ' a' w' own' (hf.trans (f.mono hs)) (g.trans hd),fun i σ' a' w' own' f g=>h.e i σ' a' w' own' (hf.trans (f.mono hs)) (g.trans hd),fun σ' a' w' own' f g=>h.r σ' a' w' own' (hf.trans (f.mono hs)) (g.trans hd)⟩
theorem qic {σ:St} {s v:Nat} {a:AV} (h:qb σ s=(v,a)) (ha:a≠ .undef):σ.set s (v,a)=σ:=by
 have hl:s<σ.length:=qdu (by rw [h]; exact ha)
 rw [←h]
 simp only [qb,List.getD_eq_getElem?_getD,List.getElem?_eq_getElem hl,Option.getD_some]
 exact List.set_getElem_self hl
theorem qbH {R:Type} :(l:List Nat)→(σ:St)→(k:St→Option R)→qcH l σ k=k σ
 |[],_,_=>rfl
 |s::r,σ,k=>by
  unfold qcH
  split
  ·rename_i v t x h
   rw [qV,qic h (fun h=>by cases h)]
   exact qbH r σ k
  ·rename_i v et e xs h
   rw [qV,qic h (fun h=>by cases h)]
   exact qbH r σ k
  ·rename_i v t x h
   rw [qV,qic h (fun h=>by cases h)]
   exact qbH r σ k
  ·exact qbH r σ k
def RunOk (C:Ctx) (E:Env) (N:Nat) (anns:qm9) {R:Type} (pin:List Nat) (r:R) (c:Code):Prop:=qeO pin c=true→∀ {wr:List Nat} {σ:St} {k:K R} {Q1:Exit→Act→World→Prop} {a:Act} {w:World} {own:Nat→List Nat},
  qhC E N anns c wr σ k=some r→qjY C a.tmps→qv C σ a.tmps w own→KOk C pin k r wr σ a Q1→c.wp C.P Q1 a w
theorem qnp (hE:qai E C.P) {N:Nat} {anns:qm9} {R:Type} {pin:List Nat} {r:R} (hF:qfh E C pin) (c:Code):RunOk C E N anns pin r c∧∀x y,c= .seq x y→RunOk C E N anns pin r y:=by
 induction c with
 |skip=>
  refine ⟨?_,fun _ _ e=>by cases e⟩
  intro hp wr σ k Q1 a w own he hpc h hk; exact wp_skip (hk.n σ a w own (Fr.refl _ _) (qaP.refl _ _) h he)
 |region id ops d=>
  refine ⟨?_,fun _ _ e=>by cases e⟩
  intro hp wr σ k Q1 a w own he hpc h hk
  simp only [qhC,qbH] at he
  split at he
  case h_2=>cases he
  rename_i σ1 c1 d1 h1
  obtain ⟨hc,he⟩:=qem he
  exact qmW hE hF hp h1 hc hpc h fun a1 w1 own1 hd1 hst1=>hk.n _ a1 w1 own1 (qmZ h1).1 hd1 hst1 he
 |seq x y ihx ihy=>
  refine ⟨?_,fun x' y' e=>by cases e; exact ihy.1⟩
  intro hp wr σ k Q1 a w own he hpc h hk
  simp only [qeO,Bool.and_eq_true] at hp
  refine wp_seq (ihx.1 hp.1 he hpc h ⟨fun σ' a' w' own' f hd hst he'=> ?_,fun i σ' a' w' own' f hd hst he'=>hk.e i σ' a' w' own' f hd hst he',fun σ' a' w' own' f hd hst he'=>hk.r σ' a' w' own' f hd hst he'⟩)
  exact ihy.1 hp.2 he' (hd.pinC hF hpc) hst (hk.fr hd (fun s hs=>hs) f)
 |cond c x y ihx ihy=>
  refine ⟨?_,fun _ _ e=>by cases e⟩
  intro hp wr σ k Q1 a w own he hpc h hk
  simp only [qhC,qbH] at he
  cases hamb:qoI c σ with
  |some wm=>
   obtain ⟨w0,m⟩:=wm
   simp only [qeO,Bool.and_eq_true] at hp
   obtain ⟨b,hev,hbm⟩:∃b,a.eval c= .bool b∧(b=w0→m=true):=by
    unfold qoI at hamb
    split at hamb
    case h_2=>cases hamb
    rename_i t
    split at hamb
    case h_2=>cases hamb
    rename_i w1 m1 hat
    injection hamb with hamb
    injection hamb with e1 e2
    subst e1; subst e2
    have:=h.at_ t
    rw [hat] at this
    obtain ⟨_,b,h1,h2⟩:=this
    exact ⟨b,h1,h2⟩
   simp only [hamb] at he
   refine wp_cond hev ?_
   cases m with
   |true=>
    simp only [cond_true,qjC] at he
    split at he
    case isFalse=>cases he
    rename_i hag
    cases b with
    |true=>exact ihx.1 hp.1 he hpc h hk
    |false=>exact ihy.1 hp.2 (hag ▸ he) hpc h hk
   |false=>
    simp only [cond_false] at he
    have hne:b≠w0:=fun e=>by cases hbm e
    cases b <;> cases w0 <;> simp only at he <;> first|exact absurd rfl hne|exact ihx.1 hp.1 he hpc h hk|exact ihy.1 hp.2 he hpc h hk
  |none=>
  simp only [hamb] at he
  split at he
  case h_2=>cases he
  rename_i b ow hb
  split at he
  ·split at he
   case h_2=>cases he
   rename_i σ1 c1 d1 h1
   obtain ⟨hc,he⟩:=qem he
   exact qgB hE hF (.cond c x y) hp h1 hc hpc h fun a1 w1 own1 hd1 hst1=>hk.n _ a1 w1 own1 (qfb _ h1).1 hd1 hst1 he
  ·simp only [qeO,Bool.and_eq_true] at hp
   refine wp_cond (qmS hpc h hb) ?_
   cases b with
   |true=>exact ihx.1 hp.1 he hpc h hk
   |false=>exact ihy.1 hp.2 he hpc h hk
 |block id x ih=>
  refine ⟨?_,fun _ _ e=>by cases e⟩
  intro hp wr σ k Q1 a w own he hpc h hk
  refine wp_block (ih.1 hp he hpc h ⟨fun σ' a' w' own' f hd hst he'=>hk.n σ' a' w' own' f hd hst he',fun i σ' a' w' own' f hd hst he'=> ?_,fun σ' a' w' own' f hd hst he'=>hk.r σ' a' w' own' f hd hst he'⟩)
  simp only at he'
  by_cases hi:i=id
  ·rw [if_pos hi] at he'
   subst hi
   simpa [Exit.inBlock] using hk.n σ' a' w' own' f hd hst he'
  ·rw [if_neg hi] at he'
   simpa [Exit.inBlock,hi] using hk.e i σ' a' w' own' f hd hst he'
 |exit id=>
  refine ⟨?_,fun _ _ e=>by cases e⟩
  intro hp wr σ k Q1 a w own he hpc h hk; exact wp_exit (hk.e id σ a w own (Fr.refl _ _) (qaP.refl _ _) h he)
 |ret=>
  refine ⟨?_,fun _ _ e=>by cases e⟩
  intro hp wr σ k Q1 a w own he hpc h hk; exact wp_ret (hk.r σ a w own (Fr.refl _ _) (qaP.refl _ _) h he)
 |loop x ih=>
  refine ⟨?_,fun _ _ e=>by cases e⟩
  intro hp wr σ k Q1 a w own he hpc h hk
  simp only [qhC,qbH] at he
  split at he
  case h_2=>cases he
  rename_i A hA
  split at he
  ·rename_i I hpat
   split at he
   case h_2=>cases he
   rename_i v0 kt vt rem cur0 hit0
   split at he
   case h_2=>cases he
   rename_i xr xb
   split at he
   case isFalse=>cases he
   rename_i hcond
   obtain ⟨hcond,l1,l2,l3⟩:=hcond
   split at he
   case h_2=>cases he
   rename_i p0 hp0
   simp only [itOk,Bool.and_eq_true] at hcond
   obtain ⟨⟨⟨c1,c2⟩,c3⟩,c4,c5,c6,c7⟩:=hcond
   have hsub:∀s∈A.wr,s∈wr:=fun s hs=>by
    have:=List.all_eq_true.1 c1 s hs
    simpa using this
   have hlive:∀q∈A.live,q.1∈A.wr:=fun q hq=>by
    have:=List.all_eq_true.1 c2 q hq
    simpa using this
   have hn:=qbB c3
   have htn:I.tn∈A.wr:=by simpa using c4
   have htok:I.tok∈A.wr:=by simpa using c5
   have hitn:I.it∉A.wr:=by simpa using c6
   have hitw:I.it∈wr:=by simpa using c7
   let B:qd5:= { A with wr:=I.it::A.wr }
   have hliveB:∀q∈B.live,q.1∈B.wr:=fun q hq=>List.mem_cons_of_mem _ (hlive q hq)
   have hsubB:∀s∈B.wr,s∈wr:=fun s hs=>by
    rcases List.mem_cons.1 hs with rfl|hs
    ·exact hitw
    ·exact hsub s hs
   have hAB:∀s∈A.wr,s∈B.wr:=fun s hs=>List.mem_cons_of_mem _ hs
   simp only [qeO,Bool.and_eq_true] at hp
   obtain ⟨idr,opsr,hxr⟩:∃id ops,xr= .region id ops false:=by
    cases xr with
    |region id ops d=>cases d with
     |false=>exact ⟨id,ops,rfl⟩
     |true=>cases hpat
    |_=>cases hpat
   subst hxr
   obtain ⟨own0,h0⟩:=qg4 A.wr A.live h
   have hit1:qb (qkh A.wr A.live σ) I.it=(v0,.itr kt vt rem cur0):=by rw [(qe5 hlive).2 I.it hitn]; exact hit0
   have iter:∀ {τ:St} {a':Act} {w':World} {own':Nat→List Nat} {v:Nat} {rem:List (kt.den×vt.den)} {cur:Option (kt.den×vt.den)},qv C τ a'.tmps w' own'→qb τ I.it=(v,.itr kt vt rem cur)→∃b,a'.tmps.getD I.it undef=ptr b 0∧own' I.it=[b]∧qb0 w' (C.free w' own') kt vt rem cur b:=fun hst hg=>by
    have:=hst.at_ I.it
    rw [hg] at this
    exact this
   obtain ⟨b0,t1,t2,t3⟩:=iter h0 hit1
   refine wp_loop_ghost (fun n a' w'=>∃q own' rem cur b,n=rem.length∧qv C (qbr B σ q) a'.tmps w' own'∧a'.tmps.getD I.it undef=ptr b 0∧own' I.it=[b]∧qb0 w' (C.free w' own') kt vt rem cur b∧qaP pin a a'∧qj5 (fun ih e rem' p=>qhC E N anns xb A.wr (itS I A σ p (.itr kt vt rem' (some e)) true) { k with n:=fun σ'=>match qho A.live (qkh A.wr A.live σ') with
      |some q=>ih q
      |none=>none }) (fun p=>qhC E N anns xb A.wr (itS I A σ p (.itr kt vt [] none) false) { k with n:=fun _=>none }) rem q=some r) rem.length ⟨p0,own0,rem,cur0,b0,rfl,qv.head (A:=B) (τ:=qkh A.wr A.live σ) h0 hliveB hn h.wf ((qe5 hlive).mono hAB) hp0,t1,t2,t3,qaP.refl _ _,he⟩ ?_
   rintro n a1 w1 ⟨q,own1,rem1,cur1,b1,hnl,hst,u1,u2,u3,hd1,hmap⟩
   have hfr:Fr B.wr σ (qbr B σ q):=qgK (A:=B) (σ:=σ) hliveB hn q
   have itfr:∀av bb,Fr B.wr σ (itS I A σ q av bb):=fun av bb=>hfr.trans (qa6 _ fun u hu=>by
    have hu:u=⟨I.it,true,av⟩∨u=⟨I.tn,true,.undef⟩∨u=⟨I.tok,true,.val .bool bb⟩:=by simpa using hu
    rcases hu with rfl|rfl|rfl
    ·exact List.mem_cons_self
    ·exact hAB _ htn
    ·exact hAB _ htok)
   have itat:∀av bb,∃v,qb (itS I A σ q av bb) I.it=(v,av):=fun av bb=>by
    have hne:∀u∈([⟨I.tn,true,.undef⟩,⟨I.tok,true,.val .bool bb⟩]:List U),u.s≠I.it:=fun u hu=>by
     have hu:u=⟨I.tn,true,.undef⟩∨u=⟨I.tok,true,.val .bool bb⟩:=by simpa using hu
     rcases hu with rfl|rfl
     ·exact fun e=>hitn (by rw [←e]; exact htn)
     ·exact fun e=>hitn (by rw [←e]; exact htok)
    have e1:itS I A σ q av bb=qa (qr (qbr B σ q) ⟨I.it,true,av⟩) [⟨I.tn,true,.undef⟩,⟨I.tok,true,.val .bool bb⟩]:=rfl
    have hout:I.it∉([⟨I.tn,true,.undef⟩,⟨I.tok,true,.val .bool bb⟩]:List U).map (·.s):=fun hm=>by
     obtain ⟨u,hu,e⟩:=List.mem_map.1 hm
     exact hne u hu e
    have hlen:(⟨I.it,true,av⟩:U).s<(qbr B σ q).length:=by
     show I.it<_
     rw [hfr.1]; exact l1
    exact ⟨_,(congrArg (fun z=>qb z I.it) e1).trans ((qbA _ hout).trans (qk (qbr B σ q) ⟨I.it,true,av⟩ hlen))⟩
   refine wp_seq (qoK (id:=idr) (ops:=opsr) (rest:=xb) hpat hp.1 hst hfr.1 l1 l2 l3 u1 u2 u3 (fun hr0 a2 w2 own2 hd2 hst2=> ?_) (fun j hj a2 w2 own2 hd2 hst2=> ?_))
   ·subst hr0
    rw [qkX] at hmap
    refine ih.2 _ _ rfl hp.2 hmap ((hd2.trans hd1).pinC hF hpc) hst2 ⟨fun σ' a' w' own' f hd hst' he'=>(by cases he'),fun i σ' a' w' own' f hd hst' he'=> ?_,fun σ' a' w' own' f hd hst' he'=> ?_⟩
    ·exact hk.e i σ' a' w' own' (((itfr _ _).trans (f.mono hAB)).mono hsubB) (hd.trans (hd2.trans hd1)) hst' he'
    ·exact hk.r σ' a' w' own' (((itfr _ _).trans (f.mono hAB)).mono hsubB) (hd.trans (hd2.trans hd1)) hst' he'
   ·have hm:=qmq hmap (fun e=>by rw [e] at hj; cases hj) j hj
    refine ih.2 _ _ rfl hp.2 hm ((hd2.trans hd1).pinC hF hpc) hst2 ⟨fun σ' a' w' own' f hd hst' he'=> ?_,fun i σ' a' w' own' f hd hst' he'=> ?_,fun σ' a' w' own' f hd hst' he'=> ?_⟩
    ·simp only at he'
     split at he'
     case h_2=>cases he'
     rename_i q' hq'
     obtain ⟨own3,hst3⟩:=qg4 A.wr A.live hst'
     obtain ⟨v3,hv3⟩:=itat (.itr kt vt (rem1.eraseIdx j) (some rem1[j])) true
     have hg3:qb (qkh A.wr A.live σ') I.it=(v3,.itr kt vt (rem1.eraseIdx j) (some rem1[j])):=by rw [(qe5 hlive).2 I.it hitn,f.2 I.it hitn]; exact hv3
     obtain ⟨b3,s1,s2,s3⟩:=iter hst3 hg3
     exact ⟨_,by rw [hnl,List.length_eraseIdx_of_lt hj]; omega,q',own3,rem1.eraseIdx j,_,b3,rfl,qv.head (A:=B) (τ:=qkh A.wr A.live σ') hst3 hliveB hn h.wf (((itfr _ _).trans (f.mono hAB)).trans ((qe5 hlive).mono hAB)) hq',s1,s2,s3,hd.trans (hd2.trans hd1),he'⟩
    ·exact hk.e i σ' a' w' own' (((itfr _ _).trans (f.mono hAB)).mono hsubB) (hd.trans (hd2.trans hd1)) hst' he'
    ·exact hk.r σ' a' w' own' (((itfr _ _).trans (f.mono hAB)).mono hsubB) (hd.trans (hd2.trans hd1)) hst' he'
  split at he
  case isFalse=>cases he
  rename_i hcond
  simp only [Bool.and_eq_true] at hcond
  obtain ⟨⟨c1,c2⟩,c3⟩:=hcond
  split at he
  case h_2=>cases he
  rename_i p0 hp0
  have hsub:∀s∈A.wr,s∈wr:=fun s hs=>by
   have:=List.all_eq_true.1 c1 s hs
   simpa using this
  have hlive:∀q∈A.live,q.1∈A.wr:=fun q hq=>by
   have:=List.all_eq_true.1 c2 q hq
   simpa using this
  have hn:=qbB c3
  obtain ⟨own0,h0⟩:=qg4 A.wr A.live h
  refine wp_loop_ghost (fun n a' w'=>∃q own',qv C (qbr A σ q) a'.tmps w' own'∧qaP pin a a'∧qc8 n (fun ih p=>qhC E N anns x A.wr (qbr A σ p) { k with n:=fun σ'=>match qho A.live (qkh A.wr A.live σ') with
     |some q=>ih q
     |none=>none }) q=some r) N ⟨p0,own0,qv.head (τ:=qkh A.wr A.live σ) h0 hlive hn h.wf (qe5 hlive) hp0,qaP.refl _ _,he⟩ ?_
  rintro n a1 w1 ⟨q,own1,hst,hd1,hit⟩
  cases n with
  |zero=>cases hit
  |succ n=>
   have hfr:=qgK (σ:=σ) hlive hn q
   refine ih.1 hp hit (hd1.pinC hF hpc) hst ⟨fun σ' a' w' own' f hd hst' he'=> ?_,fun i σ' a' w' own' f hd hst' he'=> ?_,fun σ' a' w' own' f hd hst' he'=> ?_⟩
   ·simp only at he'
    split at he'
    case h_2=>cases he'
    rename_i q' hq'
    obtain ⟨own2,hst2⟩:=qg4 A.wr A.live hst'
    exact ⟨n,Nat.lt_succ_self n,q',own2,qv.head (τ:=qkh A.wr A.live σ') hst2 hlive hn h.wf ((hfr.trans f).trans (qe5 hlive)) hq',hd.trans hd1,he'⟩
   ·exact hk.e i σ' a' w' own' ((hfr.trans f).mono hsub) (hd.trans hd1) hst' he'
   ·exact hk.r σ' a' w' own' ((hfr.trans f).mono hsub) (hd.trans hd1) hst' he'
 |_=>
  refine ⟨?_,fun _ _ e=>by cases e⟩
  intro hp wr σ k Q1 a w own he hpc h hk; cases he
theorem qoH (hE:qai E C.P) {N:Nat} {anns:qm9} {R:Type} {pin:List Nat} {r:R} (hF:qfh E C pin) (c:Code):qeO pin c=true→∀ {wr:List Nat} {σ:St} {k:K R} {Q1:Exit→Act→World→Prop} {a:Act} {w:World} {own:Nat→List Nat},
  qhC E N anns c wr σ k=some r→qjY C a.tmps→qv C σ a.tmps w own→KOk C pin k r wr σ a Q1→c.wp C.P Q1 a w:=(qnp hE hF c).1
end
end Go.Vi
namespace Go.Vi
open Go.RowKit
section
variable {C:Ctx} {E:Env} {σ τ:St} {tm:Array Value} {a:Act} {w w':World} {own:Nat→List Nat} {o:Oper} {p:qdR} [Tabbed E C]
theorem qcs: {l:List (List Nat)} →l.flatten.Nodup→(∀i,(l.getD i []).Nodup)∧∀i j b,b∈l.getD i []→b∈l.getD j []→i=j
 |[],_=>⟨fun i=>by simp,fun i j b h=>by simp at h⟩
 |x::l,h=>by
  rw [List.flatten_cons] at h
  obtain ⟨h1,h2,h3⟩:=List.nodup_append.1 h
  obtain ⟨k1,k2⟩:=qcs h2
  have mem:∀i b,b∈l.getD i []→b∈l.flatten:=fun i b hb=>by
   rw [List.getD_eq_getElem?_getD] at hb
   cases hi:l[i]? with
   |none=>rw [hi] at hb; simp at hb
   |some y=>
    rw [hi] at hb
    exact List.mem_flatten.2 ⟨y,List.mem_of_getElem? hi,by simpa using hb⟩
  refine ⟨fun i=> ?_,fun i j b hi hj=> ?_⟩
  ·cases i with
   |zero=>simpa using h1
   |succ i=>simpa using k1 i
  ·cases i with
   |zero=>
    cases j with
    |zero=>rfl
    |succ j=>exact (h3 b (by simpa using hi) b (mem j b (by simpa using hj)) rfl).elim
   |succ i=>
    cases j with
    |zero=>exact (h3 b (by simpa using hj) b (mem i b (by simpa using hi)) rfl).elim
    |succ j=>rw [k2 i j b (by simpa using hi) (by simpa using hj)]
theorem qbP {X:Sit} {F:Nat→Prop} (hF:∀b,F b→b<X.w.heap.size→X.F b):(ps:List PM)→ {x:PMs.den ps} → {vs:List Value} → {g i:List Nat} →qM X.P X.w F ps x vs g i→(g++i).Nodup→
  ∃owns:List (List Nat),owns.length=ps.length∧vs.length=ps.length∧(qaz ps x).length=ps.length∧owns.flatten.Nodup∧(∀b∈owns.flatten,b∈g++i)∧
   ∀k,k<ps.length→qL X (qb (qaz ps x) k).2 (vs.getD k undef) (owns.getD k [])∧(qb (qaz ps x) k).2.mentions=[]
 |[],x,vs,g,i,⟨h1,h2,h3⟩,_=>⟨[],rfl,by rw [h1]; rfl,rfl,by simp,fun b hb=>by simp at hb,fun k hk=>by cases hk⟩
 | .val t::ps,x,vs,g,i,⟨v,r,h1,h2,h3⟩,hn=>by
  obtain ⟨owns,k1,k2,k3,k4,k5,k6⟩:=qbP hF ps h3 hn
  refine ⟨[]::owns,by simp [k1],by rw [h1]; simp [k2],by simp [qaz,k3],by simpa using k4,by simpa using k5,fun k hk=> ?_⟩
  cases k with
  |zero=>exact ⟨⟨rfl,by rw [h1]; exact h2.mono hF⟩,rfl⟩
  |succ k=>rw [h1]; exact k6 k (by simpa using hk)
 | .nil et e::ps,x,vs,g,i,⟨r,h1,h3⟩,hn=>by
  obtain ⟨owns,k1,k2,k3,k4,k5,k6⟩:=qbP hF ps h3 hn
  refine ⟨[]::owns,by simp [k1],by rw [h1]; simp [k2],by simp [qaz,k3],by simpa using k4,by simpa using k5,fun k hk=> ?_⟩
  cases k with
  |zero=>exact ⟨⟨rfl,by rw [h1]; rfl⟩,rfl⟩
  |succ k=>rw [h1]; exact k6 k (by simpa using hk)
 | .rd t::ps,x,vs,g,i,⟨ad,cs,r,h1,h2,h3,h4,h5,h6⟩,hn=>by
  obtain ⟨owns,k1,k2,k3,k4,k5,k6⟩:=qbP hF ps h6 hn
  refine ⟨[]::owns,by simp [k1],by rw [h1]; simp [k2],by simp [qaz,k3],by simpa using k4,by simpa using k5,fun k hk=> ?_⟩
  cases k with
  |zero=>exact ⟨⟨rfl,ad,cs,by rw [h1]; simp [Addr.add],hF _ h2 h3,h3,h4,h5.keep fun b hb hlt=>⟨hF b hb hlt,hlt,rfl⟩⟩,rfl⟩
  |succ k=>rw [h1]; exact k6 k (by simpa using hk)
 | .ior et e::ps,x,vs,g,i,⟨v,r,i1,i2,h1,h2,h3,h4⟩,hn=>by
  rw [h2] at hn
  have hn':=List.nodup_append.1 hn
  have hni:=List.nodup_append.1 hn'.2.1
  have hn2:(g++i2).Nodup:=List.nodup_append.2 ⟨hn'.1,hni.2.1,fun b hb b' hb'=>hn'.2.2 b hb b' (List.mem_append_right _ hb')⟩
  obtain ⟨owns,k1,k2,k3,k4,k5,k6⟩:=qbP hF ps h4 hn2
  refine ⟨i1::owns,by simp [k1],by rw [h1]; simp [k2],by simp [qaz,k3],?_,?_,fun k hk=> ?_⟩
  ·rw [List.flatten_cons]
   refine List.nodup_append.2 ⟨hni.1,k4,fun b hb b' hb' e=> ?_⟩
   subst e
   rcases List.mem_append.1 (k5 b hb') with hm|hm
   ·exact hn'.2.2 b hm b (List.mem_append_left _ hb) rfl
   ·exact hni.2.2 b hb b hm rfl
  ·intro b hb
   rw [List.flatten_cons] at hb
   rw [h2]
   rcases List.mem_append.1 hb with hb|hb
   ·exact List.mem_append_right _ (List.mem_append_left _ hb)
   ·rcases List.mem_append.1 (k5 b hb) with hm|hm
    ·exact List.mem_append_left _ hm
    ·exact List.mem_append_right _ (List.mem_append_right _ hm)
  ·cases k with
   |zero=>exact ⟨by rw [h1]; exact h3.own.keep (fun b hb hlt=>⟨hF b hb hlt,hlt,rfl⟩) (fun _ _ _=>rfl),rfl⟩
   |succ k=>rw [h1]; exact k6 k (by simpa using hk)
 | .fn ts us::ps,x,vs,g,i,⟨v,r,h1,h2,h3⟩,hn=>by
  obtain ⟨owns,k1,k2,k3,k4,k5,k6⟩:=qbP hF ps h3 hn
  refine ⟨[]::owns,by simp [k1],by rw [h1]; simp [k2],by simp [qaz,k3],by simpa using k4,by simpa using k5,fun k hk=> ?_⟩
  cases k with
  |zero=>exact ⟨⟨rfl,by rw [h1]; exact h2.keep fun b hb hlt=>⟨hF b hb hlt,hlt,rfl⟩⟩,rfl⟩
  |succ k=>rw [h1]; exact k6 k (by simpa using hk)
 | .own et e::ps,x,vs,g,i,⟨v,r,g1,g2,h1,h2,h3,h4⟩,hn=>by
  rw [h2,List.append_assoc] at hn
  obtain ⟨n1,n2,n3⟩:=List.nodup_append.1 hn
  obtain ⟨owns,k1,k2,k3,k4,k5,k6⟩:=qbP hF ps h4 n2
  refine ⟨g1::owns,by simp [k1],by rw [h1]; simp [k2],by simp [qaz,k3],?_,?_,fun k hk=> ?_⟩
  ·rw [List.flatten_cons]
   exact List.nodup_append.2 ⟨n1,k4,fun b hb b' hb'=>n3 b hb b' (k5 b' hb')⟩
  ·intro b hb
   rw [List.flatten_cons] at hb
   rw [h2,List.append_assoc]
   rcases List.mem_append.1 hb with hb|hb
   ·exact List.mem_append_left _ hb
   ·exact List.mem_append_right _ (k5 b hb)
  ·cases k with
   |zero=>exact ⟨by rw [h1]; exact h3.keep (fun b hb hlt=>⟨hF b hb hlt,hlt,rfl⟩) (fun _ _ _=>rfl),rfl⟩
   |succ k=>rw [h1]; exact k6 k (by simpa using hk)
 | .io t::ps,x,vs,g,i,⟨b0,r,i2,cs,te,h1,h2,h3,h4,h5⟩,hn=>by
  rw [h2] at hn
  have hn':=List.nodup_append.1 hn
  have hni:=List.nodup_cons.1 hn'.2.1
  have hn2:(g++i2).Nodup:=List.nodup_append.2 ⟨hn'.1,hni.2,fun b hb b' hb'=>hn'.2.2 b hb b' (List.mem_cons_of_mem _ hb')⟩
  obtain ⟨owns,k1,k2,k3,k4,k5,k6⟩:=qbP hF ps h5 hn2
  refine ⟨[b0]::owns,by simp [k1],by rw [h1]; simp [k2],by simp [qaz,k3],?_,?_,fun k hk=> ?_⟩
  ·rw [List.flatten_cons]
   refine List.nodup_append.2 ⟨by simp,k4,fun b hb b' hb' e=> ?_⟩
   simp at hb
   subst hb; subst e
   rcases List.mem_append.1 (k5 b hb') with hm|hm
   ·exact hn'.2.2 b hm b List.mem_cons_self rfl
   ·exact hni.1 hm
  ·intro b hb
   rw [List.flatten_cons] at hb
   rw [h2]
   rcases List.mem_append.1 hb with hb|hb
   ·simp at hb; subst hb; simp
   ·rcases List.mem_append.1 (k5 b hb) with hm|hm
    ·exact List.mem_append_left _ hm
    ·exact List.mem_append_right _ (List.mem_cons_of_mem _ hm)
  ·cases k with
   |zero=>exact ⟨⟨b0,cs,[],te,by rw [h1]; rfl,h3,⟨rfl,h4.keep fun b hb hlt=>⟨hF b hb hlt,hlt,rfl⟩⟩,rfl⟩,rfl⟩
   |succ k=>rw [h1]; exact k6 k (by simpa using hk)
 | .iob t::ps,x,vs,g,i,⟨b0,r,g1,g2,i2,cs,te,h1,h0,h2,h3,h4,h5⟩,hn=>by
  subst h0; subst h2
  have hp:((g1++g2)++b0::i2).Perm ((b0::g1)++(g2++i2)):=List.perm_iff_count.2 fun a=>by simp only [List.count_append,List.count_cons]; omega
  have hn':=List.nodup_append.1 (hp.nodup_iff.1 hn)
  obtain ⟨owns,k1,k2,k3,k4,k5,k6⟩:=qbP hF ps h5 hn'.2.1
  refine ⟨(b0::g1)::owns,by simp [k1],by rw [h1]; simp [k2],by simp [qaz,k3],?_,?_,fun k hk=> ?_⟩
  ·rw [List.flatten_cons]
   exact List.nodup_append.2 ⟨hn'.1,k4,fun b hb b' hb'=>hn'.2.2 b hb b' (k5 b' hb')⟩
  ·intro b hb
   rw [List.flatten_cons] at hb
   refine hp.mem_iff.2 ?_
   rcases List.mem_append.1 hb with hb|hb
   ·exact List.mem_append_left _ hb
   ·exact List.mem_append_right _ (k5 b hb)
  ·cases k with
   |zero=>exact ⟨⟨b0,cs,g1,te,by rw [h1]; rfl,h3,h4.keep (fun b hb hlt=>⟨hF b hb hlt,hlt,rfl⟩) (fun _ _ _=>rfl),rfl⟩,rfl⟩
   |succ k=>rw [h1]; exact k6 k (by simpa using hk)
theorem qdX {fn:Func} {ps:List PM} {x:PMs.den ps} {k:Nat} (hl:(qaz ps x).length=ps.length) (hk:k<ps.length):qb (qcA fn ps x) k=qb (qaz ps x) k:=by
 simp [qb,qcA,List.getD_eq_getElem?_getD,List.getElem?_append_left (show k<(qaz ps x).length by omega)]
theorem qdO {fn:Func} {ps:List PM} {x:PMs.den ps} {k:Nat} (hl:(qaz ps x).length=ps.length) (hk:¬k<ps.length):qb (qcA fn ps x) k=(0,.undef):=by
 simp only [qb,qcA,List.getD_eq_getElem?_getD]
 rw [List.getElem?_append_right (by omega),List.getElem?_replicate]
 split <;> rfl
theorem qnE {pn:Nat→Option Nat} {P:Program} {F:Nat→Prop} {fn:Func} {ps:List PM} {x:PMs.den ps} {vs:List Value} {g i:List Nat} {T:qn5} (hT:qcl T w fun b=>F b∧¬b∈g++i) (hlen:ps.length≤fn.ntmps) (hp:qM P w F ps x vs g i) (hpre:∀b∈g++i,¬F b∧b<w.heap.size) (hn:(g++i).Nodup):
  ∃own,qv { P,w0:=w,O:=fun b=>b∈g++i,G:=F,pn,T,hT } (qcA fn ps x) (vs.toArray++Array.replicate (fn.ntmps - vs.toArray.size) undef) w own:=by
 have base:∃owns:List (List Nat),owns.length=ps.length∧vs.length=ps.length∧(qaz ps x).length=ps.length∧owns.flatten.Nodup∧(∀b∈owns.flatten,b∈g++i)∧
   ∀k,k<ps.length→qL { P,ver:=fun s=>(qb (qcA fn ps x) s).1,tm:=fun s=>(vs.toArray++Array.replicate (fn.ntmps - vs.toArray.size) undef).getD s undef,w,F:=fun b=>F b,own:=fun _=>[],pn } (qb (qaz ps x) k).2 (vs.getD k undef) (owns.getD k [])∧(qb (qaz ps x) k).2.mentions=[]:=
  qbP (X:= { P,ver:=_,tm:=_,w,F:=fun b=>F b,own:=fun _=>[],pn }) (fun b hb _=>hb) ps hp hn
 obtain ⟨owns,k1,k2,k3,k4,k5,k6⟩:=base
 obtain ⟨n1,n2⟩:=qcs k4
 have mem:∀s b,b∈owns.getD s []→b∈g++i:=fun s b hb=>by
  refine k5 b ?_
  rw [List.getD_eq_getElem?_getD] at hb
  cases hi:owns[s]? with
  |none=>rw [hi] at hb; simp at hb
  |some y=>
   rw [hi] at hb
   exact List.mem_flatten.2 ⟨y,List.mem_of_getElem? hi,by simpa using hb⟩
 have hsl:(qcA fn ps x).length=fn.ntmps:=by simp [qcA,k3]; omega
 have hz:∀k,¬k<ps.length→owns.getD k []=[]:=fun k hk=>by
  rw [List.getD_eq_getElem?_getD,List.getElem?_eq_none (by omega)]; rfl
 refine ⟨fun s=>owns.getD s [],⟨?_,qa5.refl _ _,fun s b hb=>⟨.inl (mem s b hb),(hpre b (mem s b hb)).2⟩,n1,n2,fun s hs=>hz s (by omega),fun s hs=> ?_,fun s m hm=> ?_⟩⟩
 ·simp [hsl,k2]; omega
 ·by_cases hk:s<ps.length
  ·rw [qdX k3 hk]
   obtain ⟨h1,h2⟩:=k6 s hk
   have e:(vs.toArray++Array.replicate (fn.ntmps - vs.toArray.size) undef).getD s undef=vs.getD s undef:=by
    rw [Array.getD_eq_getD_getElem?,Array.getElem?_append_left (by simp [k2]; exact hk),List.getD_eq_getElem?_getD]
    simp
   rw [e]
   refine qL.keep (X:= { P,ver:=fun s=>(qb (qcA fn ps x) s).1,tm:=fun s=>(vs.toArray++Array.replicate (fn.ntmps - vs.toArray.size) undef).getD s undef,w,F:=fun b=>F b,own:=fun _=>[],pn }) (X':=sit { P,w0:=w,O:=fun b=>b∈g++i,G:=F,pn,T,hT } (qcA fn ps x) (vs.toArray++Array.replicate (fn.ntmps - vs.toArray.size) undef) w (fun s=>owns.getD s [])) ⟨rfl,rfl⟩ (fun b hb hlt=>⟨⟨.inl hb,hlt,fun s' hs'=>(hpre b (mem s' b hs')).1 hb⟩,hlt,rfl⟩) (fun _ _ _=>rfl) (fun m hm=>by rw [h2] at hm; cases hm) h1
  ·rw [qdO k3 hk]
   trivial
 ·by_cases hk:s<ps.length
  ·rw [qdX k3 hk,(k6 s hk).2] at hm
   cases hm
  ·rw [qdO k3 hk] at hm
   cases hm
def qlh (tmps:Array Value):ResultVar→Sem Value
 | .tmp t=>pure (tmps.getD t undef)
 | .cell a t=>do loadVar t (←asAddr (tmps.getD a undef))
theorem qgH {P:Program} {t:Nat} {u:Ty} (h:TyB P t u) {ad:Addr} {cs:List Value} (hc:qcU w ad cs) (hl:cs.length=u.size):(loadVar t ad).run P w= .ok (mkV u cs) w:=by
 have:=qbL (w:=w) h hc hl
 simpa only [Instr.loadAt,Instr.sureAddr,Sem.run_bind,Sem.run_pure,Result.andThen_ok] using this
theorem qfm (hE:qai E C.P) (h:qv C σ tm w own):(r:RM)→ {v:ResultVar} → {x:r.den×List Nat} →(qfY E r v).run (qb σ)=some x→∃z,(qlh tm v).run C.P w= .ok z w∧
  (match r,x with
   | .val t,x=>qO w (FW (sit C σ tm w own) x.2) t x.1 z
   | .nz e,x=>qO w (C.free w own) (.slice e) x.1 z∧(∀c,(nzC [.nz e] [v]).run (qb σ)=some c→qbg c→x.1=[]→z= .slice none 0 0)
   | .own et e,x=>∃s',x.2=[s']∧qA w (C.free w own) et e x.1 z (own s')∧∃ys,(qb σ s').2= .own et e ys
   | .agg b,x=>∃s' bs,x.2=[s']∧qkz w (C.free w own) (.agg (b.un x.1)) z bs∧(∀k∈bs,k∈own s'∧(∀c,(qb σ s').2= .box c→tm.getD s' undef≠ptr k 0))∧bs.Nodup)
 | .val t,.tmp s,x,he=>by
  simp only [qfY,Q.run_get] at he
  exact ⟨tm.getD s undef,rfl,qbc h (o:=⟨some s,(qb σ s).1,(qb σ s).2⟩) ⟨rfl,rfl,h.at_ s⟩ he⟩
 | .val u,.cell s t,x,he=>by
  simp only [qfY,Q.run_get] at he
  have hat:=h.at_ s
  split at he
  case h_2=>cases he
  rename_i c hc
  split at he
  case isFalse=>cases he
  rename_i hcond
  split at he
  case h_2=>cases he
  rename_i y f hg
  have:=Q.ret_some he
  subst this
  obtain ⟨b0,cs,bs',te,b1,b2,b3,b4⟩:=h.box (a:= { tmps:=tm,defers:=[] }) hc
  obtain ⟨q1,q2,q3⟩:=b3.get hg
  have hcl:=b3.length
  rw [List.drop_zero,List.take_of_length_le (by omega)] at q2
  rw [List.drop_zero,List.take_of_length_le (by omega)] at q3
  refine ⟨mkV u cs,?_,qO.ofCells ?_⟩
  ·have hcs:qcU w ⟨b0,0,none⟩ cs:=by
    intro j u hj
    rw [qH,qc1 b2,Nat.zero_add]
    exact hj
   have hl:=qgH (hE.ty t u hcond.1) hcs (by omega)
   have b1:tm.getD s undef=ptr b0 0:=b1
   simp only [qlh,b1,ptr,asAddr,Sem.run_bind,Sem.run_pure,Result.andThen_ok]
   exact hl
  ·cases f with
   |false=>exact (q3 rfl).keep fun b hb hlt=>⟨.inl hb,hlt,rfl⟩
   |true=>
    refine q2.keep fun b hb hlt=>⟨?_,hlt,rfl⟩
    rcases hb with hb|hb
    ·exact .inl hb
    ·refine .inr ⟨s,List.mem_singleton.2 rfl,by show b∈own s; rw [b4]; exact List.mem_cons_of_mem _ hb,fun e=> ?_⟩
     have e:tm.getD s undef=ptr b 0:=e
     have b1:tm.getD s undef=ptr b0 0:=b1
     rw [b1] at e
     have e:=(qbk e).1
     subst e
     have hn:=h.nodup s
     rw [b4] at hn
     exact (List.nodup_cons.1 hn).1 hb
 | .own et e,.tmp s,x,he=>by
  simp only [qfY,Q.run_get] at he
  have hat:=h.at_ s
  split at he
  ·rename_i et' e' xs' h3
   rw [h3] at hat
   split at he
   ·rename_i het
    subst het
    split at he
    ·rename_i xs has
     have:=Q.ret_some he
     subst this
     obtain ⟨e1,e2⟩:=Ty.as_some has
     injection e1 with e1
     subst e1
     have e2:xs'=xs:=e2
     subst e2
     exact ⟨_,rfl,s,rfl,hat,_,h3⟩
    ·cases he
   ·cases he
  ·rename_i s' v0 h3
   rw [h3] at hat
   simp only [Q.run_get] at he
   split at he
   ·rename_i hv
    have hu:tm.getD s' undef=tm.getD s undef:=hat.2 hv
    have hat':=h.at_ s'
    rw [hu] at hat'
    split at he
    ·rename_i et' e' xs' h4
     rw [h4] at hat'
     split at he
     ·rename_i het
      subst het
      split at he
      ·rename_i xs has
       have:=Q.ret_some he
       subst this
       obtain ⟨e1,e2⟩:=Ty.as_some has
       injection e1 with e1
       subst e1
       have e2:xs'=xs:=e2
       subst e2
       exact ⟨_,rfl,s',rfl,hat',_,h4⟩
      ·cases he
     ·cases he
    ·cases he
   ·cases he
  ·cases he
 | .own _ _,.cell _ _,x,he=>by cases he
 | .agg bb,.cell s t,x,he=>by
  simp only [qfY,Q.run_get] at he
  split at he
  case h_2=>cases he
  rename_i c hc
  split at he
  case h_2=>cases he
  rename_i u y hu hy
  split at he
  case isFalse=>cases he
  rename_i hcond
  have:=Q.ret_some he
  subst this
  obtain ⟨b0,cs,bs',te,b1,b2,b3,b4⟩:=h.box (a:= { tmps:=tm,defers:=[] }) hc
  have hcl:=b3.length
  have hnd:=h.nodup s
  rw [b4] at hnd
  have hnd:=List.nodup_cons.1 hnd
  have b1:tm.getD s undef=ptr b0 0:=b1
  refine ⟨mkV u cs,?_,s,bs',rfl,⟨cs,?_,BC.toShape_rep bb hy b3⟩,fun k hk=>⟨by rw [b4]; exact List.mem_cons_of_mem _ hk,fun _ _ e=> ?_⟩,hnd.2⟩
  ·have hcs:qcU w ⟨b0,0,none⟩ cs:=by
    intro j u hj
    rw [qH,qc1 b2,Nat.zero_add]
    exact hj
   have hl:=qgH (hE.ty t u hu) hcs (by omega)
   simp only [qlh,b1,ptr,asAddr,Sem.run_bind,Sem.run_pure,Result.andThen_ok]
   exact hl
  ·simp [mkV,hcond.2]
  ·have:=(qbk (b1.symm.trans e)).1
   subst this
   exact hnd.1 hk
 | .agg bb,.tmp s,x,he=>by
  simp only [qfY,Q.run_get] at he
  have hat:=h.at_ s
  split at he
  case h_2=>cases he
  rename_i c h3
  rw [h3] at hat
  split at he
  case h_2=>cases he
  rename_i y hy
  have:=Q.ret_some he
  subst this
  obtain ⟨cs,g1,g2⟩:=hat
  exact ⟨_,rfl,s,own s,rfl,⟨cs,g1,BC.toShape_rep bb hy g2⟩,fun k hk=>⟨hk,fun c hc=>by rw [h3] at hc; cases hc⟩,h.nodup s⟩
 | .nz _,.cell _ _,x,he=>by cases he
 | .nz e,.tmp s,x,he=>by
  simp only [qfY,Q.run_get] at he
  have hat:=h.at_ s
  split at he
  ·rename_i et e' h3
   rw [h3] at hat
   have:=Q.ret_some he
   subst this
   have hat:_∧_:=hat
   refine ⟨_,rfl,?_,fun c _ _ _=>hat.2⟩
   rw [hat.2]
   exact qO.ofSlice (.inl ⟨rfl,rfl⟩)
  ·rename_i e' xs h3
   rw [h3] at hat
   split at he
   case h_2=>cases he
   rename_i ys has
   have:=Q.ret_some he
   subst this
   obtain ⟨e1,e2⟩:=Ty.as_some has
   injection e1 with e1
   subst e1
   have e2:xs=ys:=e2
   subst e2
   exact ⟨_,rfl,hat.2.1,fun c _ _ h0=>hat.2.2 h0⟩
  ·rename_i e' xs h3
   rw [h3] at hat
   split at he
   case h_2=>cases he
   rename_i ys has
   have:=Q.ret_some he
   subst this
   obtain ⟨e1,e2⟩:=Ty.as_some has
   injection e1 with e1
   subst e1
   have e2:xs=ys:=e2
   subst e2
   refine ⟨_,rfl,hat.2,fun c hc hb h0=> ?_⟩
   simp only [nzC,Q.run_get,h3] at hc
   have:=Q.ret_some hc
   subst this
   have h0:xs=[]:=h0
   subst h0
   have:=hb _ (List.mem_singleton.2 rfl)
   rw [qfR,qf] at this
   simp at this
  ·cases he
theorem qgb (r:RM) (v:ResultVar) (rs:List RM) (vs:List ResultVar) {c:List Bool} (hc:(nzC (r::rs) (v::vs)).run (qb σ)=some c) (hb:qbg c):(∀c,(nzC [r] [v]).run (qb σ)=some c→qbg c)∧∃c2,(nzC rs vs).run (qb σ)=some c2∧qbg c2:=by
 have none:(nzC (r::rs) (v::vs)=nzC rs vs)→nzC [r] [v]= .ret []→(∀c,(nzC [r] [v]).run (qb σ)=some c→qbg c)∧∃c2,(nzC rs vs).run (qb σ)=some c2∧qbg c2:=fun e1 e2=>by
  rw [e1] at hc
  refine ⟨fun c h=> ?_,c,hc,hb⟩
  rw [e2] at h
  have:=Q.ret_some h
  subst this
  intro b hb
  cases hb
 cases r with
 |val t=>exact none rfl rfl
 |own et e=>exact none rfl rfl
 |agg b=>exact none rfl rfl
 |nz e=>
  cases v with
  |cell a t=>exact none rfl rfl
  |tmp s=>
   simp only [nzC,Q.run_get] at hc⊢
   split at hc
   ·rename_i e' xs h3
    obtain ⟨c2,h1,h2⟩:=Q.bind_some hc
    have:=Q.ret_some h2
    subst this
    refine ⟨fun c h=> ?_,c2,h1,fun b hm=>hb b (List.mem_cons_of_mem _ hm)⟩
    have:=Q.ret_some (show (Q.ret [neI (qR xs) 0]).run (qb σ)=some c from h)
    subst this
    intro b hm
    exact hb b (by rw [List.mem_singleton.1 hm]; exact List.mem_cons_self)
   ·rename_i h3
    refine ⟨fun c h=> ?_,c,hc,hb⟩
    have:=Q.ret_some h
    subst this
    intro b hb
    cases hb
theorem qda (hE:qai E C.P) (h:qv C σ tm w own):(rs:List RM)→ {vars:List ResultVar} → {q:RMs.den rs×List Nat×List Nat} →(qe0 E rs vars).run (qb σ)=some q→(∃c,(nzC rs vars).run (qb σ)=some c∧qbg c)→∃(vs:List Value) (bs:List Nat),(vars.mapM (qlh tm)).run C.P w= .ok vs w∧
  qad w (FW (sit C σ tm w own) q.2.2) (qbu rs q.1) vs bs∧(∀b∈bs,∃s∈q.2.1,b∈own s)∧(q.2.1.Nodup→bs.Nodup)∧∀k∈bs,∀s∈q.2.1,k∈own s→∀c,(qb σ s).2= .box c→tm.getD s undef≠ptr k 0
 |[],[],q,he,_=>by
  have:=Q.ret_some he
  subst this
  exact ⟨[],[],rfl,⟨rfl,rfl⟩,fun b hb=>(by cases hb),fun _=>List.nodup_nil,fun k hk=>(by cases hk)⟩
 | .nz e::rs,v::vars,q,he,⟨c,hc,hb⟩=>by
  simp only [qe0] at he
  obtain ⟨x,h1,he⟩:=Q.bind_some he
  obtain ⟨q',h2,he⟩:=Q.bind_some he
  have:=Q.ret_some he
  subst this
  obtain ⟨n1,n2⟩:=qgb _ _ _ _ hc hb
  obtain ⟨z,hz,hr,hr2⟩:=qfm hE h (.nz e) h1
  obtain ⟨vs,bs,k1,k2,k3,k4,k5⟩:=qda hE h rs h2 n2
  have hnz:∃c,(nzC [.nz e] [v]).run (qb σ)=some c:=by
   cases v with
   |cell a t=>exact ⟨[],rfl⟩
   |tmp s=>
    simp only [nzC,Q.run_get]
    split
    ·exact ⟨_,rfl⟩
    ·exact ⟨_,rfl⟩
  obtain ⟨c0,hc0⟩:=hnz
  refine ⟨z::vs,bs,by simp only [List.mapM_cons,Sem.run_bind,hz,Result.andThen_ok,k1,Sem.run_pure],⟨_,_,[],bs,rfl,rfl,⟨rfl,hr.mono fun b hb _=> .inl hb,hr2 c0 hc0 (n1 c0 hc0)⟩,k2⟩,k3,k4,k5⟩
 | .val t::rs,v::vars,q,he,⟨c,hc,hb⟩=>by
  simp only [qe0] at he
  obtain ⟨x,h1,he⟩:=Q.bind_some he
  obtain ⟨q',h2,he⟩:=Q.bind_some he
  have:=Q.ret_some he
  subst this
  obtain ⟨z,hz,hr⟩:=qfm hE h (.val t) h1
  obtain ⟨vs,bs,k1,k2,k3,k4,k5⟩:=qda hE h rs h2 (qgb _ _ _ _ hc hb).2
  refine ⟨z::vs,bs,by simp only [List.mapM_cons,Sem.run_bind,hz,Result.andThen_ok,k1,Sem.run_pure],⟨_,_,[],bs,rfl,rfl,⟨rfl,hr.mono fun b hb _=>FW.mono (fun s hs=>List.mem_append_left _ hs) hb⟩,qad.turn rs (.inr fun b hb _=>FW.mono (fun s hs=>List.mem_append_right _ hs) hb) k2⟩,k3,k4,k5⟩
 | .own et e::rs,v::vars,q,he,⟨c,hc,hb⟩=>by
  simp only [qe0] at he
  obtain ⟨x,h1,he⟩:=Q.bind_some he
  obtain ⟨q',h2,he⟩:=Q.bind_some he
  have:=Q.ret_some he
  subst this
  obtain ⟨z,hz,s',hx,hr,ys,hys⟩:=qfm hE h (.own et e) h1
  obtain ⟨vs,bs,k1,k2,k3,k4,k5⟩:=qda hE h rs h2 (qgb _ _ _ _ hc hb).2
  refine ⟨z::vs,own s'++bs,by simp only [List.mapM_cons,Sem.run_bind,hz,Result.andThen_ok,k1,Sem.run_pure],⟨_,_,own s',bs,rfl,rfl,hr.keep (fun b hb hlt=>⟨.inl hb,hlt,rfl⟩) (fun _ _ _=>rfl),k2⟩,fun b hb=> ?_,fun hn=> ?_,fun k hk s2 hs2 hko c2 hcc=> ?_⟩
  ·rcases List.mem_append.1 hb with hb|hb
   ·exact ⟨s',by simp [hx],hb⟩
   ·obtain ⟨s2,g1,g2⟩:=k3 b hb
    exact ⟨s2,List.mem_append_right _ g1,g2⟩
  ·simp only [hx] at hn
   have hn':=List.nodup_cons.1 hn
   refine List.nodup_append.2 ⟨h.nodup s',k4 hn'.2,fun b hb b' hb' e=> ?_⟩
   subst e
   obtain ⟨s2,g1,g2⟩:=k3 b hb'
   have:=h.apart s' s2 b hb g2
   subst this
   exact hn'.1 g1
  ·have hmem:∃s3∈s'::q'.2.1,k∈own s3∧(s3=s'∨k∈bs):=by
    rcases List.mem_append.1 hk with hk|hk
    ·exact ⟨s',List.mem_cons_self,hk,.inl rfl⟩
    ·obtain ⟨s3,g1,g2⟩:=k3 k hk
     exact ⟨s3,List.mem_cons_of_mem _ g1,g2,.inr hk⟩
   obtain ⟨s3,g1,g2,g3⟩:=hmem
   have:=h.apart s2 s3 k hko g2
   subst this
   rcases g3 with rfl|g3
   ·rw [hys] at hcc
    cases hcc
   ·obtain ⟨s4,f1,f2⟩:=k3 k g3
    have:=h.apart s2 s4 k hko f2
    subst this
    exact k5 k g3 s2 f1 hko c2 hcc
 | .agg bb::rs,v::vars,q,he,⟨c,hc,hb⟩=>by
  simp only [qe0] at he
  obtain ⟨x,h1,he⟩:=Q.bind_some he
  obtain ⟨q',h2,he⟩:=Q.bind_some he
  have:=Q.ret_some he
  subst this
  obtain ⟨z,hz,s',bz,hx,hr,hbz,hbn⟩:=qfm hE h (.agg bb) h1
  obtain ⟨vs,bs,k1,k2,k3,k4,k5⟩:=qda hE h rs h2 (qgb _ _ _ _ hc hb).2
  obtain ⟨cs,r1,r2⟩:=hr
  refine ⟨z::vs,bz++bs,by simp only [List.mapM_cons,Sem.run_bind,hz,Result.andThen_ok,k1,Sem.run_pure],⟨_,_,bz,bs,rfl,rfl,⟨cs,r1,r2.keep (fun b hb hlt=>⟨.inl hb,hlt,rfl⟩) (fun _ _ _=>rfl)⟩,k2⟩,fun b hb=> ?_,fun hn=> ?_,fun k hk s2 hs2 hko c2 hcc=> ?_⟩
  ·rcases List.mem_append.1 hb with hb|hb
   ·exact ⟨s',by simp [hx],(hbz b hb).1⟩
   ·obtain ⟨s2,g1,g2⟩:=k3 b hb
    exact ⟨s2,List.mem_append_right _ g1,g2⟩
  ·simp only [hx] at hn
   have hn':=List.nodup_cons.1 hn
   refine List.nodup_append.2 ⟨hbn,k4 hn'.2,fun b hb b' hb' e=> ?_⟩
   subst e
   obtain ⟨s2,g1,g2⟩:=k3 b hb'
   have:=h.apart s' s2 b (hbz b hb).1 g2
   subst this
   exact hn'.1 g1
  ·rcases List.mem_append.1 hk with hk|hk
   ·have:=h.apart s2 s' k hko (hbz k hk).1
    subst this
    exact (hbz k hk).2 c2 hcc
   ·obtain ⟨s4,f1,f2⟩:=k3 k hk
    have:=h.apart s2 s4 k hko f2
    subst this
    exact k5 k hk s2 f1 hko c2 hcc
 |[],_::_,_,he,_=>by cases he
 | .val _::_,[],_,he,_=>by cases he
 | .own _ _::_,[],_,he,_=>by cases he
 | .nz _::_,[],_,he,_=>by cases he
 | .agg _::_,[],_,he,_=>by cases he
def qaS (tm:Nat→Value):List PM→Nat→List Value→List Nat→Prop
 |[],_,_,i=>i=[]
 | .io _::ps,k,as,i=>∃b i2,i=b::i2∧tm k=ptr b 0∧qaS tm ps (k+1) as.tail i2
 | .iob _::ps,k,as,i=>∃b i2,i=b::i2∧tm k=ptr b 0∧qaS tm ps (k+1) as.tail i2
 | .ior _ _::ps,k,as,i=>∃i1 i2,i=i1++i2∧tm k=as.headD undef∧i1=(as.headD undef).ownBlock.toList∧qaS tm ps (k+1) as.tail i2
 | .val _::ps,k,as,i=>qaS tm ps (k+1) as.tail i
 | .own _ _::ps,k,as,i=>qaS tm ps (k+1) as.tail i
 | .fn _ _::ps,k,as,i=>qaS tm ps (k+1) as.tail i
 | .nil _ _::ps,k,as,i=>qaS tm ps (k+1) as.tail i
 | .rd _::ps,k,as,i=>qaS tm ps (k+1) as.tail i
theorem qaS.congr {tm tm':Nat→Value} :(ps:List PM)→(k:Nat)→ {as:List Value} → {i:List Nat} →(∀s∈qav ps k,tm' s=tm s)→qaS tm ps k as i→qaS tm' ps k as i
 |[],_,_,_,_,h=>h
 | .io _::ps,k,_,_,he,⟨b,i2,h1,h2,h3⟩=>⟨b,i2,h1,by rw [he k (by simp [qav])]; exact h2,h3.congr ps (k+1) fun s hs=>he s (by simp [qav,hs])⟩
 | .iob _::ps,k,_,_,he,⟨b,i2,h1,h2,h3⟩=>⟨b,i2,h1,by rw [he k (by simp [qav])]; exact h2,h3.congr ps (k+1) fun s hs=>he s (by simp [qav,hs])⟩
 | .ior _ _::ps,k,_,_,he,⟨i1,i2,h1,h2,h3,h4⟩=>⟨i1,i2,h1,by rw [he k (by simp [qav])]; exact h2,h3,h4.congr ps (k+1) fun s hs=>he s (by simp [qav,hs])⟩
 | .val _::ps,k,_,_,he,h=>qaS.congr ps (k+1) he h
 | .own _ _::ps,k,_,_,he,h=>qaS.congr ps (k+1) he h
 | .fn _ _::ps,k,_,_,he,h=>qaS.congr ps (k+1) he h
 | .nil _ _::ps,k,_,_,he,h=>qaS.congr ps (k+1) he h
 | .rd _::ps,k,_,_,he,h=>qaS.congr ps (k+1) he h
theorem qaS.boxes {tm:Nat→Value} :(ps:List PM)→(k:Nat)→ {as:List Value} → {i:List Nat} →qaS tm ps k as i→∃ib:List Nat,(qa4 ps k).map tm=ib.map (fun b=>ptr b 0)
 |[],_,_,_,_=>⟨[],rfl⟩
 | .io _::ps,k,_,_,⟨b,i2,h1,h2,h3⟩=>by
  obtain ⟨ib,hib⟩:=h3.boxes ps (k+1)
  exact ⟨b::ib,by simp [qa4,h2,hib]⟩
 | .iob _::ps,k,_,_,⟨b,i2,h1,h2,h3⟩=>by
  obtain ⟨ib,hib⟩:=h3.boxes ps (k+1)
  exact ⟨b::ib,by simp [qa4,h2,hib]⟩
 | .ior _ _::ps,k,_,_,⟨i1,i2,h1,h2,h3,h4⟩=>by
  obtain ⟨ib,hib⟩:=h4.boxes ps (k+1)
  exact ⟨ib,by simp [qa4,hib]⟩
 | .val _::ps,k,_,_,h=>qaS.boxes ps (k+1) h
 | .own _ _::ps,k,_,_,h=>qaS.boxes ps (k+1) h
 | .fn _ _::ps,k,_,_,h=>qaS.boxes ps (k+1) h
 | .nil _ _::ps,k,_,_,h=>qaS.boxes ps (k+1) h
 | .rd _::ps,k,_,_,h=>qaS.boxes ps (k+1) h
theorem qa2:(ps:List PM)→(k:Nat)→∀s∈qa4 ps k,s∈qav ps k
 |[],_,_,h=>h
 | .io _::ps,k,s,h=>by
  rcases List.mem_cons.1 h with rfl|h
  ·simp [qav]
  ·simp [qav,qa2 ps (k+1) s h]
 | .iob _::ps,k,s,h=>by
  rcases List.mem_cons.1 h with rfl|h
  ·simp [qav]
  ·simp [qav,qa2 ps (k+1) s h]
 | .ior _ _::ps,k,s,h=>by simp [qav,qa2 ps (k+1) s h]
 | .val _::ps,k,s,h=>qa2 ps (k+1) s h
 | .own _ _::ps,k,s,h=>qa2 ps (k+1) s h
 | .fn _ _::ps,k,s,h=>qa2 ps (k+1) s h
 | .nil _ _::ps,k,s,h=>qa2 ps (k+1) s h
 | .rd _::ps,k,s,h=>qa2 ps (k+1) s h
theorem qbR (h:qv C σ a.tmps w own):(ps:List PM)→(k:Nat)→ {z:PMs.ioDen ps} → {as:List Value} → {i:List Nat} →(qdc ps k).run (qb σ)=some z→
  qaS (fun s=>a.tmps.getD s undef) ps k as i→∃js:List Nat,js.Nodup∧(∀F:Nat→Prop,(∀b s c,k≤s→s∈qav ps k→(qb σ s).2= .box c→b∈(own s).tail→b∉js→F b)→(∀b,C.free w own b→F b)→qbs w F ps z as i js)∧
   (∀b∈i,∃s,b∈own s∧((a.tmps.getD s undef=ptr b 0∧∃c,(qb σ s).2= .box c)∨(s∈qa9 ps k∧∃et e ys,(qb σ s).2= .own et e ys)))∧
   ∀b∈js,∃s,k≤s∧b∈own s∧s∈qa9 ps k∧(∃c,(qb σ s).2= .box c)∧a.tmps.getD s undef≠ptr b 0
 |[],k,z,as,i,_,hi=>by
  have hi:i=[]:=hi
  subst hi
  exact ⟨[],List.nodup_nil,fun _ _ _=>⟨rfl,rfl⟩,fun b hb=>(by cases hb),fun b hb=>(by cases hb)⟩
 | .val _::ps,k,z,as,i,he,hi=>by
  obtain ⟨js,n,g0,g1,g2⟩:=qbR h ps (k+1) (z:=z) he hi
  exact ⟨js,n,fun F hF hF0=>g0 F (fun b s c hk hp=>hF b s c (by omega) (by simp only [qav]; exact hp)) hF0,g1,fun b hb=>by
   obtain ⟨s,q1,q2⟩:=g2 b hb
   exact ⟨s,by omega,q2⟩⟩
 | .own _ _::ps,k,z,as,i,he,hi=>by
  obtain ⟨js,n,g0,g1,g2⟩:=qbR h ps (k+1) (z:=z) he hi
  exact ⟨js,n,fun F hF hF0=>g0 F (fun b s c hk hp=>hF b s c (by omega) (by simp only [qav]; exact hp)) hF0,g1,fun b hb=>by
   obtain ⟨s,q1,q2⟩:=g2 b hb
   exact ⟨s,by omega,q2⟩⟩
 | .fn _ _::ps,k,z,as,i,he,hi=>by
  obtain ⟨js,n,g0,g1,g2⟩:=qbR h ps (k+1) (z:=z) he hi
  exact ⟨js,n,fun F hF hF0=>g0 F (fun b s c hk hp=>hF b s c (by omega) (by simp only [qav]; exact hp)) hF0,g1,fun b hb=>by
   obtain ⟨s,q1,q2⟩:=g2 b hb
   exact ⟨s,by omega,q2⟩⟩
 | .nil _ _::ps,k,z,as,i,he,hi=>by
  obtain ⟨js,n,g0,g1,g2⟩:=qbR h ps (k+1) (z:=z) he hi
  exact ⟨js,n,fun F hF hF0=>g0 F (fun b s c hk hp=>hF b s c (by omega) (by simp only [qav]; exact hp)) hF0,g1,fun b hb=>by
   obtain ⟨s,q1,q2⟩:=g2 b hb
   exact ⟨s,by omega,q2⟩⟩
 | .rd _::ps,k,z,as,i,he,hi=>by
  obtain ⟨js,n,g0,g1,g2⟩:=qbR h ps (k+1) (z:=z) he hi
  exact ⟨js,n,fun F hF hF0=>g0 F (fun b s c hk hp=>hF b s c (by omega) (by simp only [qav]; exact hp)) hF0,g1,fun b hb=>by
   obtain ⟨s,q1,q2⟩:=g2 b hb
   exact ⟨s,by omega,q2⟩⟩
 | .ior et e::ps,k,z,as,i,he,⟨i1,i2,p1,p2,p3,p4⟩=>by
  simp only [qdc,Q.run_get] at he
  split at he
  case h_2=>cases he
  rename_i et' e' xs hx
  split at he
  case isFalse=>cases he
  rename_i hty
  obtain ⟨hty,hmk⟩:=hty
  subst hty
  split at he
  case h_2=>cases he
  rename_i x hs
  obtain ⟨r,h1,he⟩:=Q.bind_some he
  have:=Q.ret_some he
  subst this
  obtain ⟨e1,e2⟩:=Ty.as_some hs
  injection e1 with e1
  subst e1
  have e2:xs=x:=e2
  subst e2
  obtain ⟨js,hjn,g1,g2,g3⟩:=qbR h ps (k+1) h1 p4
  have hat:=h.at_ k
  rw [hx,show a.tmps.getD k undef=as.headD undef from p2] at hat
  have hown:qcZ w (C.free w own) et e' xs (as.headD undef) (own k):=qA.toRow hmk hat
  have hb:own k=i1:=by
   obtain ⟨_,cells,_,hb,_⟩:=hown
   rw [hb,p3]
  refine ⟨js,hjn,fun F hF hF0=>⟨i1,i2,p1,?_,g1 F (fun b s c hk hp=>hF b s c (by omega) (by simp only [qav]; exact List.mem_cons_of_mem _ hp)) hF0⟩,fun b hbm=> ?_,fun b hb=> ?_⟩
  ·rw [hb] at hown
   exact hown.keep (fun b hb hlt=>⟨hF0 b hb,hlt,rfl⟩) (fun _ _ _=>rfl)
  ·rw [p1] at hbm
   rcases List.mem_append.1 hbm with hbm|hbm
   ·exact ⟨k,by rw [hb]; exact hbm,.inr ⟨by simp [qa9],et,e',xs,hx⟩⟩
   ·obtain ⟨s,q1,q2⟩:=g2 b hbm
    refine ⟨s,q1,q2.imp id fun ⟨q3,q4⟩=>⟨by simp [qa9,q3],q4⟩⟩
  ·obtain ⟨s,q0,q1,q2,q3⟩:=g3 b hb
   exact ⟨s,by omega,q1,by simp [qa9,q2],q3⟩
 | .io t::ps,k,z,as,i,he,⟨b,i2,p1,p2,p3⟩=>by
  subst p1
  simp only [qdc,Q.run_get] at he
  split at he
  case h_2=>cases he
  rename_i c hc
  split at he
  case h_2=>cases he
  rename_i x fl hg
  split at hg
  case isFalse=>cases hg
  rename_i hsz
  obtain ⟨r,h1,he⟩:=Q.bind_some he
  have:=Q.ret_some he
  subst this
  obtain ⟨b0,cs,bs',te,b1,b2,b3,b4⟩:=h.box hc
  have hb:b0=b:=(qbk (b1.symm.trans p2)).1
  subst hb
  obtain ⟨js,hjn,g1,g2,g3⟩:=qbR h ps (k+1) h1 p3
  obtain ⟨q1,q2,_⟩:=b3.get hg
  have hcl:=b3.length
  rw [List.drop_zero,List.take_of_length_le (by omega)] at q2
  refine ⟨js,hjn,fun F hF hF0=>⟨b0,i2,cs,te,rfl,b2,q2.keep fun b hb hlt=>⟨?_,hlt,rfl⟩,g1 F (fun b s c hk hp=>hF b s c (by omega) (by simp only [qav]; exact List.mem_cons_of_mem _ hp)) hF0⟩,fun b hb=> ?_,fun b hb=> ?_⟩
  ·rcases hb with hb|hb
   ·exact hF0 b hb
   ·refine hF b k c (Nat.le_refl _) (by simp [qav]) hc (by rw [b4]; exact hb) fun hj=> ?_
    obtain ⟨s,r0,r1,_⟩:=g3 b hj
    have:=h.apart s k b r1 (by rw [b4]; exact List.mem_cons_of_mem _ hb)
    omega
  ·rcases List.mem_cons.1 hb with rfl|hb
   ·exact ⟨k,by rw [b4]; exact List.mem_cons_self,.inl ⟨b1,c,hc⟩⟩
   ·exact g2 b hb
  ·obtain ⟨s,q0,q1,q2,q3⟩:=g3 b hb
   exact ⟨s,by omega,q1,by simpa [qa9] using q2,q3⟩
 | .iob t::ps,k,z,as,i,he,⟨b,i2,p1,p2,p3⟩=>by
  subst p1
  simp only [qdc,Q.run_get] at he
  split at he
  case h_2=>cases he
  rename_i c hc
  split at he
  case h_2=>cases he
  rename_i x hg
  obtain ⟨r,h1,he⟩:=Q.bind_some he
  have:=Q.ret_some he
  subst this
  obtain ⟨b0,cs,bs',te,b1,b2,b3,b4⟩:=h.box hc
  have hb:b0=b:=(qbk (b1.symm.trans p2)).1
  subst hb
  obtain ⟨js,hjn,g1,g2,g3⟩:=qbR h ps (k+1) h1 p3
  have hnd:=h.nodup k
  rw [b4] at hnd
  have hnd:=List.nodup_cons.1 hnd
  obtain ⟨j1,q1,q2⟩:=b3.fit t hnd.2 hg
  have hk:∀b∈j1,b∈own k:=fun b hb=>by rw [b4]; exact List.mem_cons_of_mem _ (q1.subset hb)
  have hjk:∀b∈own k,b∉js:=fun b hb hj=>by
   obtain ⟨s,r0,r1,_⟩:=g3 b hj
   have:=h.apart s k b r1 hb
   omega
  refine ⟨j1++js,List.nodup_append.2 ⟨hnd.2.sublist q1,hjn,fun b hb b' hb' e=>hjk b (hk b hb) (e ▸ hb')⟩,fun F hF hF0=>⟨b0,i2,j1,js,cs,te,rfl,rfl,b2,q2 F hF0 fun k' hk' hkn=> ?_,g1 F (fun b s c' hks hps hc' hb hnj=> ?_) hF0⟩,fun b hb=> ?_,fun b hb=> ?_⟩
  ·refine hF k' k c (Nat.le_refl _) (by simp [qav]) hc (by rw [b4]; exact hk') fun hm=> ?_
   rcases List.mem_append.1 hm with hm|hm
   ·exact hkn hm
   ·exact hjk k' (by rw [b4]; exact List.mem_cons_of_mem _ hk') hm
  ·by_cases hj:b∈j1
   ·have:=h.apart s k b (List.mem_of_mem_tail hb) (hk b hj)
    omega
   ·exact hF b s c' (by omega) (by simp only [qav]; exact List.mem_cons_of_mem _ hps) hc' hb fun hm=>(List.mem_append.1 hm).elim hj hnj
  ·rcases List.mem_cons.1 hb with rfl|hb
   ·exact ⟨k,by rw [b4]; exact List.mem_cons_self,.inl ⟨b1,c,hc⟩⟩
   ·obtain ⟨s,r1,r2⟩:=g2 b hb
    exact ⟨s,r1,r2.imp id fun ⟨q3,q4⟩=>⟨by simp [qa9,q3],q4⟩⟩
  ·rcases List.mem_append.1 hb with hb|hb
   ·refine ⟨k,Nat.le_refl _,hk b hb,by simp [qa9],⟨c,hc⟩,fun e=> ?_⟩
    have e2:a.tmps.getD k undef=ptr b0 0:=b1
    have:=(qbk (e2.symm.trans e)).1
    subst this
    exact hnd.1 (q1.subset hb)
   ·obtain ⟨s,r0,r1,r2,r3⟩:=g3 b hb
    exact ⟨s,by omega,r1,by simp [qa9,r2],r3⟩
end
end Go.Vi
namespace Go.Vi
open Go.RowKit
theorem qkf {P:Program} {w:World} {fn:Func} {tmps:Array Value} {vs:List Value} (h:(fn.results.toList.mapM (qlh tmps)).run P w= .ok vs w):(results fn tmps).run P w=Result.ok (qcE vs) w:=by
 have e:results fn tmps=(do
   let vs ←fn.results.mapM (qlh tmps)
   pure (if h:vs.size=1 then vs[0] else .tuple vs)):=rfl
 rw [e,Array.mapM_eq_mapM_toList]
 simp only [Sem.run_bind,Sem.run_map,h,Result.andThen_ok,Sem.run_pure]
 congr 1
 match vs with
 |[]=>rfl
 |[v]=>rfl
 |v::u::r=>simp [qcE]
theorem qbq {P:Program} {w:World} {F:Nat→Prop} (tm:Nat→Value):(ps:List PM)→(k:Nat)→ {x:PMs.den ps} → {vs:List Value} → {g i:List Nat} →qM P w F ps x vs g i→(∀j,j<ps.length→tm (k+j)=vs.getD j undef)→qaS tm ps k vs i
 |[],k,x,vs,g,i,⟨_,_,h3⟩,_=>h3
 | .val t::ps,k,x,vs,g,i,⟨v,r,h1,h2,h3⟩,ht=>by
  subst h1
  exact qbq tm ps (k+1) h3 fun j hj=>by
   have:=ht (j+1) (by simpa using hj)
   rw [show k+1+j=k+(j+1) from by omega]
   simpa using this
 | .nil _ _::ps,k,x,vs,g,i,⟨r,h1,h3⟩,ht=>by
  subst h1
  exact qbq tm ps (k+1) h3 fun j hj=>by
   have:=ht (j+1) (by simpa using hj)
   rw [show k+1+j=k+(j+1) from by omega]
   simpa using this
 | .rd _::ps,k,x,vs,g,i,⟨_,_,r,h1,_,_,_,_,h3⟩,ht=>by
  subst h1
  exact qbq tm ps (k+1) h3 fun j hj=>by
   have:=ht (j+1) (by simpa using hj)
   rw [show k+1+j=k+(j+1) from by omega]
   simpa using this
 | .fn _ _::ps,k,x,vs,g,i,⟨v,r,h1,h2,h3⟩,ht=>by
  subst h1
  exact qbq tm ps (k+1) h3 fun j hj=>by
   have:=ht (j+1) (by simpa using hj)
   rw [show k+1+j=k+(j+1) from by omega]
   simpa using this
 | .own _ _::ps,k,x,vs,g,i,⟨v,r,g1,g2,h1,h2,h3,h4⟩,ht=>by
  subst h1
  exact qbq tm ps (k+1) h4 fun j hj=>by
   have:=ht (j+1) (by simpa using hj)
   rw [show k+1+j=k+(j+1) from by omega]
   simpa using this
 | .ior _ _::ps,k,x,vs,g,i,⟨v,r,i1,i2,h1,h2,h3,h4⟩,ht=>by
  subst h1
  have h0:tm k=v:=by simpa using ht 0 (by simp)
  refine ⟨i1,i2,h2,h0,?_,qbq tm ps (k+1) h4 fun j hj=> ?_⟩
  ·obtain ⟨_,cells,_,hb,_⟩:=h3
   exact hb
  ·have:=ht (j+1) (by simpa using hj)
   rw [show k+1+j=k+(j+1) from by omega]
   simpa using this
 | .iob t::ps,k,x,vs,g,i,⟨b,r,g1,g2,i2,cs,te,h1,h0,h2,h3,h4,h5⟩,ht=>by
  subst h1
  have h0:tm k=ptr b 0:=by simpa using ht 0 (by simp)
  refine ⟨b,i2,h2,h0,qbq tm ps (k+1) h5 fun j hj=> ?_⟩
  have:=ht (j+1) (by simpa using hj)
  rw [show k+1+j=k+(j+1) from by omega]
  simpa using this
 | .io t::ps,k,x,vs,g,i,⟨b,r,i2,cs,te,h1,h2,h3,h4,h5⟩,ht=>by
  subst h1
  have h0:tm k=ptr b 0:=by simpa using ht 0 (by simp)
  refine ⟨b,i2,h2,h0,qbq tm ps (k+1) h5 fun j hj=> ?_⟩
  have:=ht (j+1) (by simpa using hj)
  rw [show k+1+j=k+(j+1) from by omega]
  simpa using this
end Go.Vi
namespace Go.Vi
open Go.RowKit
theorem qmk (vs:List Value) (n:Nat) (j:Nat):(vs.toArray++Array.replicate n undef).getD j undef=vs.getD j undef:=by
 rw [Array.getD_eq_getD_getElem?,List.getD_eq_getElem?_getD]
 by_cases h:j<vs.length
 ·rw [Array.getElem?_append_left (by simpa using h)]
  simp
 ·rw [Array.getElem?_append_right (by simpa using h),List.getElem?_eq_none (by omega),Array.getElem?_replicate]
  split <;> rfl
theorem qmz {P:Program} {E:Env} (hE:qai E P) {w w':World} {F:Nat→Prop} {fn:Func} {ps:List PM} {rs:List RM} {g i:List Nat} {σ:St} {a:Act} {own:Nat→List Nat} {y:RMs.den rs×PMs.ioDen ps}
  (hpre:∀b∈g++i,¬F b∧b<w.heap.size) (hn:(g++i).Nodup)
  {pn:Nat→Option Nat} {hT:qcl E.tabs w fun b=>F b∧¬b∈g++i} (h:qv { P,w0:=w,O:=fun b=>b∈g++i,G:=F,pn,T:=E.tabs,hT } σ a.tmps w' own) {as:List Value} (hpin:qaS (fun s=>a.tmps.getD s undef) ps 0 as i) (he:qjm E fn ps rs σ=some y):
  ∃vs bs js,(results fn a.tmps).run P w'=Result.ok (qcE vs) w'∧(bs++js).Nodup∧(∀b∈bs++js,(b∈g∨w.heap.size≤b)∧b<w'.heap.size)∧qad w' (qgU w F g i (bs++js)) (qbu rs y.1) vs bs∧qbs w' (qgU w F g i (bs++js)) ps y.2 as i js∧qa5 (fun b=>b∈g++i) w w':=by
 haveI:Tabbed E { P,w0:=w,O:=fun b=>b∈g++i,G:=F,pn,T:=E.tabs,hT } :=⟨rfl⟩
 unfold qjm at he
 split at he
 case h_2=>cases he
 rename_i y1 gone ow z cc hr hz hcc
 split at he
 case isFalse=>cases he
 rename_i hc
 obtain ⟨hca,he⟩:=qem he
 injection he with he
 subst he
 simp only [Bool.and_eq_true] at hc
 have hgn:=qbB hc.1.1.1
 have hap:=qbp hc.1.1.2
 have hrow:=qbp hc.1.2
 have hio2:=qbp hc.2
 obtain ⟨vs0,bs,k1,k2,k3,k4,k5⟩:=qda hE h rs hr ⟨cc,hcc,hca⟩
 obtain ⟨js,hjn,hios,hio,hj⟩:=qbR h ps 0 hz hpin
 have hbi:∀b∈bs,b∉i:=fun b hb hi=>by
  obtain ⟨s,hs,hbs⟩:=k3 b hb
  obtain ⟨s',h1,h2⟩:=hio b hi
  have:=h.apart s s' b hbs h1
  subst this
  rcases h2 with ⟨h2,c,h3⟩|⟨h3,_⟩
  ·exact k5 b hb s hs hbs c h3 h2
  ·exact hrow s (List.mem_append_left _ hs) h3
 have hbj:∀b∈bs,b∉js:=fun b hb hjb=>by
  obtain ⟨s,hs,hbs⟩:=k3 b hb
  obtain ⟨s',_,h1,h0,_⟩:=hj b hjb
  have:=h.apart s s' b hbs h1
  subst this
  exact hrow s (List.mem_append_left _ hs) h0
 have hji:∀b∈js,b∉i:=fun b hb hi=>by
  obtain ⟨s,_,h1,_,⟨c,h2⟩,h3⟩:=hj b hb
  obtain ⟨s',h4,h5⟩:=hio b hi
  have:=h.apart s s' b h1 h4
  subst this
  rcases h5 with ⟨h5,_⟩|⟨_,et,e,ys,h5⟩
  ·exact h3 h5
  ·rw [h2] at h5; cases h5
 have hfree:∀b,Ctx.free { P,w0:=w,O:=fun b=>b∈g++i,G:=F,pn,T:=E.tabs,hT } w' own b→qgU w F g i (bs++js) b:=fun b hb=>by
  have hni:b∉i:=fun hi=>by
   obtain ⟨s',h1,_⟩:=hio b hi
   exact hb.2.2 s' h1
  refine ⟨?_,fun hbb=> ?_,hni⟩
  ·rcases hb.1 with hb|hb|hb
   ·exact .inl hb
   ·rcases List.mem_append.1 hb with hb|hb
    ·exact .inr (.inl hb)
    ·exact absurd hb hni
   ·exact .inr (.inr hb)
  ·rcases List.mem_append.1 hbb with hbb|hbb
   ·obtain ⟨s,_,hbs⟩:=k3 b hbb
    exact hb.2.2 s hbs
   ·obtain ⟨s,_,hbs,_⟩:=hj b hbb
    exact hb.2.2 s hbs
 have hmine:∀s b,b∈own s→b∉i→F b∨b∈g∨w.heap.size≤b:=fun s b hb hni=>by
  rcases (h.mine s b hb).1 with hb|hb
  ·rcases List.mem_append.1 hb with hb|hb
   ·exact .inr (.inl hb)
   ·exact absurd hb hni
  ·exact .inr (.inr hb)
 refine ⟨_,bs,js,qkf k1,List.nodup_append.2 ⟨k4 hgn,hjn,fun b hb b' hb' e=>hbj b hb (e ▸ hb')⟩,fun b hb=> ?_,qad.turn rs (.inr fun b hb _=> ?_) k2,hios _ (fun b s c _ hps hc hb hnj=> ?_) hfree,h.kept⟩
 ·have hni:b∉i:=(List.mem_append.1 hb).elim (hbi b) (hji b)
  obtain ⟨s,hbs⟩:∃s,b∈own s:=by
   rcases List.mem_append.1 hb with hb|hb
   ·obtain ⟨s,_,hbs⟩:=k3 b hb
    exact ⟨s,hbs⟩
   ·obtain ⟨s,_,hbs,_⟩:=hj b hb
    exact ⟨s,hbs⟩
  obtain ⟨h1,h2⟩:=h.mine s b hbs
  refine ⟨?_,h2⟩
  rcases h1 with h1|h1
  ·rcases List.mem_append.1 h1 with h1|h1
   ·exact .inl h1
   ·exact absurd h1 hni
  ·exact .inr h1
 ·rcases hb with hb|⟨s,hs,hbs,hne⟩
  ·exact hfree b hb
  ·have hni:b∉i:=fun hi=>by
    obtain ⟨s',h1,h2⟩:=hio b hi
    have:=h.apart s s' b hbs h1
    subst this
    rcases h2 with ⟨h2,_⟩|⟨h2,_⟩
    ·exact hne h2
    ·exact hrow s (List.mem_append_right _ hs) h2
   refine ⟨hmine s b hbs hni,fun hbb=> ?_,hni⟩
   rcases List.mem_append.1 hbb with hbb|hbb
   ·obtain ⟨s',hs',hbs'⟩:=k3 b hbb
    have:=h.apart s s' b hbs hbs'
    subst this
    exact hap s hs hs'
   ·obtain ⟨s',_,hbs',hr',_⟩:=hj b hbb
    have:=h.apart s s' b hbs hbs'
    subst this
    exact hrow s (List.mem_append_right _ hs) hr'
 ·obtain ⟨b0,cs,bs',te,b1,b2,b3,b4⟩:=h.box hc
  have hb0:=hb
  rw [b4] at hb
  have hb:b∈bs':=hb
  have hbs:b∈own s:=by rw [b4]; exact List.mem_cons_of_mem _ hb
  have hni:b∉i:=fun hi=>by
   obtain ⟨s',h1,h2⟩:=hio b hi
   have:=h.apart s s' b hbs h1
   subst this
   rcases h2 with ⟨h2,_⟩|⟨_,et,e,ys,h2⟩
   ·rw [b1] at h2
    have:=(qbk h2).1
    subst this
    have hnd:=h.nodup s
    rw [b4] at hnd
    exact (List.nodup_cons.1 hnd).1 hb
   ·rw [hc] at h2
    cases h2
  refine ⟨hmine s b hbs hni,fun hbb=> ?_,hni⟩
  rcases List.mem_append.1 hbb with hbb|hbb
  case inr=>exact hnj hbb
  obtain ⟨s',hs',hbs'⟩:=k3 b hbb
  have:=h.apart s s' b hbs hbs'
  subst this
  exact hio2 s hs' hps
def qiF:List Nat→List Nat→Nat→Option Nat
 |k::l,b::i,j=>if k=j then some b else qiF l i j
 |_,_,_=>none
theorem qkY {tm:Nat→Value} :(l i:List Nat)→l.map tm=i.map (fun b=>ptr b 0)→(∀k b,qiF l i k=some b→tm k=ptr b 0∧k∈l)∧∀k∈l,∃b,qiF l i k=some b
 |[],_,_=>⟨fun k b h=>(by cases h),fun k h=>(by cases h)⟩
 |k::l,[],h=>by simp at h
 |k::l,b::i,h=>by
  simp only [List.map_cons,List.cons.injEq] at h
  obtain ⟨h1,h2⟩:=qkY l i h.2
  refine ⟨fun j c hj=> ?_,fun j hj=> ?_⟩
  ·simp only [qiF] at hj
   split at hj
   ·rename_i e
    injection hj with hj
    subst e; subst hj
    exact ⟨h.1,List.mem_cons_self⟩
   ·obtain ⟨q1,q2⟩:=h1 j c hj
    exact ⟨q1,List.mem_cons_of_mem _ q2⟩
  ·simp only [qiF]
   by_cases e:k=j
   ·exact ⟨b,by rw [if_pos e]⟩
   ·rw [if_neg e]
    rcases List.mem_cons.1 hj with hj|hj
    ·exact absurd hj.symm e
    ·exact h2 j hj
theorem qai.pinned {E:Env} {P:Program} (h:qai E P) (anns:qm9) (ps:List PM) (rs:List RM):qai (E.at anns ps rs) P:=
 ⟨h.ty,fun t e he=>⟨(h.elem t e he).under,(h.elem t e he).info,(h.elem t e he).notInt⟩,h.dflt,h.size,h.arr,h.struct,h.str,h.int,h.bool,h.err,h.opt,h.map,h.off,fun t c hc=>by
  have hc:(E.zero t).map (BC.remask (qaJ anns.frz (some 1000000008)))=some c:=hc
  rw [Option.map_eq_some_iff] at hc
  obtain ⟨c0,h0,rfl⟩:=hc
  obtain ⟨i,z,h1,h2,h3⟩:=h.zero t c0 h0
  exact ⟨i,z,h1,h2,fun w F=>(h3 w F).remask _⟩,h.eq,h.mixed⟩
theorem qi9 {P:Program} {f:Nat} {fn:Func} {c:Code} (hf:P.funcs[f]? =some fn) (hb:fn.body=some c) (hname:(fn.name == "runtime.NumGoroutine")=false) (as:Array Value) (w:World):(callFunc f as).run P w= .ok (.enter f as) w:=by
 have hn:¬fn.name= "runtime.NumGoroutine" :=by simpa using hname
 simp [callFunc,hf,hn,hb]
theorem qoo {P:Program} {E:Env} (hE:qai E P) (hF:qd8 E P) {N:Nat} {anns:qm9} {f:Nat} {fn:Func} {c:Code} (hf:P.funcs[f]? =some fn) (hb:fn.body=some c) (hname:(fn.name == "runtime.NumGoroutine")=false) (D:qz)
  (hrun:∀x y,D.sem x=some y→runF E N anns fn D.ps D.rs x=some y):D.okT P E.tabs f:=by
 refine ⟨fun as w=>qi9 hf hb hname as w,fun w F x y as g i hT hp hpre hn hy=> ?_⟩
 have hT':qcl E.tabs w fun b=>F b∧¬b∈g++i:=hT.keep fun b hb hlt=>⟨⟨hb,fun hm=>(hpre b hm).1 hb⟩,hlt,rfl⟩
 have he:=hrun x y hy
 unfold runF at he
 rw [hb] at he
 simp only at he
 split at he
 case isFalse=>cases he
 rename_i hcond
 simp only [Bool.and_eq_true] at hcond
 obtain ⟨c1,c2⟩:=hcond
 have hlen:D.ps.length≤fn.ntmps:=of_decide_eq_true c2
 have hpin0:=qbq (fun s=>(as.toArray++Array.replicate (fn.ntmps - as.toArray.size) undef).getD s undef) D.ps 0 hp fun j _=>by
  rw [Nat.zero_add]; exact qmk as _ j
 obtain ⟨ib,hib⟩:=hpin0.boxes D.ps 0
 obtain ⟨p1,p2⟩:=qkY (qa4 D.ps 0) ib hib
 obtain ⟨own,hst⟩:=qnE (pn:=qiF (qa4 D.ps 0) ib) (fn:=fn) hT' hlen hp hpre hn
 have fin:∀(σ':St) (a':Act) (w':World) (own':Nat→List Nat),qaP (qav D.ps 0) { tmps:=as.toArray++Array.replicate (fn.ntmps - as.toArray.size) undef,defers:=[] } a'→qv { P,w0:=w,O:=fun b=>b∈g++i,G:=F,pn:=qiF (qa4 D.ps 0) ib,T:=E.tabs,hT:=hT' } σ' a'.tmps w' own'→qjm E fn D.ps D.rs σ'=some y→
   a'.defers=[]∧∃v,(results fn a'.tmps).run P w'= .ok v w'∧∃v',Ending.returned v= .returned v'∧D.Post w F as g i y v' w':=by
  intro σ' a' w' own' hk hs hfin
  have hpin:qaS (fun s=>a'.tmps.getD s undef) D.ps 0 as i:=hpin0.congr D.ps 0 fun s hs=>hk.2 s hs
  obtain ⟨vs,bs,js,h1,h2,h3,h4,h5,h6⟩:=qmz hE hpre hn hs hpin hfin
  exact ⟨hk.1,qcE vs,h1,qcE vs,rfl,vs,bs,js,rfl,h2,h3,h4,h5,h6⟩
 haveI:Tabbed (E.at anns D.ps D.rs) { P,w0:=w,O:=fun b=>b∈g++i,G:=F,pn:=qiF (qa4 D.ps 0) ib,T:=E.tabs,hT:=hT' } :=⟨rfl⟩
 refine calls_of_wp hf hb (qoH (E:=E.at anns D.ps D.rs) (C:= { P,w0:=w,O:=fun b=>b∈g++i,G:=F,pn:=qiF (qa4 D.ps 0) ib,T:=E.tabs,hT:=hT' }) (pin:=qav D.ps 0) (hE.pinned anns D.ps D.rs) ⟨fun f C h=>hF f C h,fun k hk=>p2 k hk,fun k b h=>qa2 D.ps 0 k (p1 k b h).2⟩ c c1 he (fun k b h=>(p1 k b h).1) hst ⟨fun σ' a' w' own' hfr hk hs hfin=>fin σ' a' w' own' hk hs hfin,fun i σ' a' w' own' hfr hk hs hfin=>(by cases hfin),fun σ' a' w' own' hfr hk hs hfin=>fin σ' a' w' own' hk hs hfin⟩)
theorem keeps {P:Program} {E:Env} (hE:qai E P) (hF:qd8 E P) {N:Nat} {anns:qm9} {f:Nat} {fn:Func} (hf:P.funcs[f]? =some fn) (hb:fn.body.isSome=true) (hname:(fn.name == "runtime.NumGoroutine")=false) {ps:List PM} {rs:List RM} {sem:PMs.den ps→Option (RMs.den rs×PMs.ioDen ps)}
  (hrun:∀x,runF E N anns fn ps rs x=sem x):qz.okT P E.tabs f ⟨ps,rs,sem⟩:=by
 obtain ⟨c,hc⟩:=Option.isSome_iff_exists.1 hb
 exact qoo hE hF (N:=N) (anns:=anns) hf hc hname ⟨ps,rs,sem⟩ fun x y h=>(hrun x).trans h
end Go.Vi
namespace Go.Vi
noncomputable section
structure TI where
 t:Nat
 ty:Ty
 et:Nat
 fs:List (Nat×Nat)
 z:qaO
 bytes:Nat
 eq:Bool
def qfg:List TI→Nat→Option TI
 |[],_=>none
 |x::r,t=>match decEq x.t t with
  |isTrue _=>some x
  |isFalse _=>qfg r t
def qaO.zero:qaO→BC
 | .val t=> .val t t.dflt
 | .own et e=> .own et e []
 | .pair a b=> .pair a.zero b.zero
 | .hole n=> .hole n
def qos {α:Type} :List (Nat×α)→Nat→Option α
 |[],_=>none
 |(a,x)::r,k=>match decEq a k with
  |isTrue _=>some x
  |isFalse _=>qos r k
def Env.tab (T:List TI) (fns:List (Nat×qz)):Env where
 ty t:=(qfg T t).map (·.ty)
 etid t:=((qfg T t).map (·.et)).getD 0
 off t f:=(qfg T t).bind fun x=>(x.fs[f]?).map (·.1)
 fty t f:=(((qfg T t).bind fun x=>(x.fs[f]?).map (·.2))).getD 0
 zero t:=(qfg T t).map (·.z.zero)
 bytes t:=((qfg T t).map (·.bytes)).getD 0
 eqok t:=((qfg T t).map (·.eq)).getD false
 fn:=qos fns
 pins:=[]
 ownz:=false
 tabs:=fun _=>none
 rf:=[]
end
end Go.Vi
namespace Go.Vi
def Ty.zeroOk:Ty→List Value→Bool
 | .int k,cs=>match cs with
  |[.int k' n]=>decide (k'=k)&&decide (n=0)
  |_=>false
 | .bool,cs=>match cs with
  |[.bool b]=> !b
  |_=>false
 | .str,cs=>match cs with
  |[.string s]=>s.data.toList.isEmpty
  |_=>false
 | .unit,cs=>cs.isEmpty
 | .err,cs=>match cs with
  |[.nilIface]=>true
  |_=>false
 | .opt _,cs=>match cs with
  |[.pointer none]=>true
  |_=>false
 | .map _ _,_=>false
 | .pair a b,cs=>a.zeroOk (cs.take a.size)&&b.zeroOk (cs.drop a.size)
 | .slice _,cs=>match cs with
  |[.slice none 0 0]=>true
  |_=>false
 | .arr n e,cs=>decide (cs.length=n * e.size)&&(List.range n).all fun i=>e.zeroOk ((cs.drop (i * e.size)).take e.size)
def qaO.zeroOk:qaO→List Value→Bool
 | .val t,cs=>t.zeroOk cs
 | .own _ _,cs=>match cs with
  |[.slice none 0 0]=>true
  |_=>false
 | .pair a b,cs=>a.zeroOk (cs.take a.zero.size)&&b.zeroOk (cs.drop a.zero.size)
 | .hole n,cs=>decide (cs.length=n)
def qm5 (P:Program):List Field→Ty→Nat→Bool
 |[],.unit,_=>true
 |f::fs,.pair a b,off=>decide (f.offset=off)&&(match P.info? f.type with
  |some i=>decide (i.size=a.size)
  |none=>false)&&qm5 P fs b (off+a.size)
 |_,_,_=>false
def fsOk (P:Program):List Field→List (Nat×Nat)→Bool
 |_,[]=>true
 |f::fs,(off,ft)::r=>decide (f.offset=off)&&decide (f.type=ft)&&(match P.info? ft with
  |some i=>decide (i.size≠0)
  |none=>false)&&fsOk P fs r
 |[],_::_=>false
def qkT (P:Program) (T:List TI) (et:Nat) (e:Ty):Bool:=
 match P.info? et with
 |some i=>decide (i.size=e.size)&&(match i.zero with
  |some z=>e.zeroOk z.cells.toList&&decide (z.cells.size=e.size)&&(match z with
   | .agg _=>e.agg
   |_=>true)
  |none=>false)&&decide (i.bytes=((qfg T et).map (·.bytes)).getD 0)
 |none=>false
def qck (P:Program) (T:List TI) (x:TI) (d:TypeDesc):Ty→Bool
 | .int k=>match d with
  | .int k'=>decide (k'=k)
  |_=>false
 | .bool=>match d with
  | .bool=>true
  |_=>false
 | .str=>match d with
  | .string=>true
  |_=>false
 | .slice e=>match d with
  | .slice et=>decide (et=x.et)&&qkT P T et e
  |_=>false
 | .arr n e=>match d with
  | .array m et=>decide (m=n)&&decide (et=x.et)&&(match P.info? et with
   |some i=>decide (i.size=e.size)
   |none=>false)
  |_=>false
 | .err=>match d with
  | .interface _=>true
  |_=>false
 | .opt _=>match d with
  | .pointer _=>true
  |_=>false
 | .map k v=>match d with
  | .map kn vn=>decide (vn=x.et)&&(match P.underlying kn with
   |some kd=>qd1 k kd
   |none=>false)&&(match P.info? vn with
   |some i=>(match i.zero with
    |some z=>v.zeroOk z.cells.toList&&(match z with
     | .agg _=>v.agg
     |_=> !v.agg)
    |none=>false)
   |none=>false)
  |_=>false
 | .unit=>match d with
  | .struct fs=>qm5 P fs.toList .unit 0&&fsOk P fs.toList x.fs
  |_=>false
 | .pair a b=>match d with
  | .struct fs=>qm5 P fs.toList (.pair a b) 0&&fsOk P fs.toList x.fs
  |_=>false
def tiOk (P:Program) (T:List TI) (x:TI):Bool:=
 match P.info? x.t,P.underlying x.t with
 |some i,some d=>decide (i.size=x.ty.size)&&(match i.zero with
  |some z=>(if x.ty.struct then x.ty.zeroOk z.cells.toList else true)&&x.z.zeroOk z.cells.toList
  |none=>false)&&qck P T x d x.ty&&(match d with
  | .struct _=>true
  |_=>x.fs.isEmpty)&&(!x.eq||qox P x.ty x.t)
 |_,_=>false
def qoe (P:Program) (T:List TI):Bool:=P.follows .mixedOrders&&T.all (tiOk P T)
theorem qhQ: {T:List TI} → {t:Nat} → {x:TI} →qfg T t=some x→x∈T∧x.t=t
 |y::r,t,x,h=>by
  simp only [qfg] at h
  split at h
  ·injection h with h
   subst h
   exact ⟨List.mem_cons_self,by assumption⟩
  ·obtain ⟨h1,h2⟩:=qhQ h
   exact ⟨List.mem_cons_of_mem _ h1,h2⟩
theorem Ty.zeroOk_rep {w:World} {F:Nat→Prop} :(t:Ty)→ {cs:List Value} →t.zeroOk cs=true→Rep w F t t.dflt cs
 | .int k,cs,h=>by
  simp only [Ty.zeroOk] at h
  split at h
  ·simp only [Bool.and_eq_true,decide_eq_true_eq] at h
   obtain ⟨rfl,rfl⟩:=h
   refine ⟨rfl,?_⟩
   rename_i k
   cases k <;> exact ⟨by decide,by decide⟩
  ·cases h
 | .bool,cs,h=>by
  simp only [Ty.zeroOk] at h
  split at h
  ·simp at h; subst h; rfl
  ·cases h
 | .err,cs,h=>by
  simp only [Ty.zeroOk] at h
  split at h
  ·exact ⟨_,rfl,.inl ⟨rfl,rfl⟩⟩
  ·cases h
 | .opt _,cs,h=>by
  simp only [Ty.zeroOk] at h
  split at h
  ·exact ⟨_,rfl,.inl ⟨rfl,rfl⟩⟩
  ·cases h
 | .map _ _,cs,h=>by cases h
 | .str,cs,h=>by
  simp only [Ty.zeroOk] at h
  split at h
  ·rename_i s
   refine ⟨?_,by simp [Ty.dflt]⟩
   have h1:s.data.toList=[]:=by simpa using h
   have h2:s.data= #[]:=by
    apply Array.toList_inj.1
    rw [h1]
   cases s
   simp only at h2
   subst h2
   rfl
  ·cases h
 | .unit,cs,h=>by
  have:cs=[]:=by simpa [Ty.zeroOk] using h
  exact this
 | .pair a b,cs,h=>by
  simp only [Ty.zeroOk,Bool.and_eq_true] at h
  exact ⟨_,_,(List.take_append_drop a.size cs).symm,a.zeroOk_rep h.1,b.zeroOk_rep h.2⟩
 | .slice e,cs,h=>by
  simp only [Ty.zeroOk] at h
  split at h
  ·exact ⟨_,rfl,.inl ⟨rfl,rfl⟩⟩
  ·cases h
 | .arr n e,cs,h=>by
  simp only [Ty.zeroOk,Bool.and_eq_true,decide_eq_true_eq,List.all_eq_true,List.mem_range] at h
  obtain ⟨h1,h2⟩:=h
  refine ⟨by simp [Ty.dflt],(List.range n).map (fun i=>(cs.drop (i * e.size)).take e.size),by simp,?_,fun i x c hi hc=> ?_⟩
  ·clear h2
   induction n generalizing cs with
   |zero=>simp at h1; subst h1; rfl
   |succ n ih=>
    have:=ih (cs:=cs.drop e.size) (by rw [List.length_drop,h1,Nat.add_mul]; omega)
    rw [List.range_succ_eq_map,List.map_cons,List.flatten_cons,List.map_map]
    rw [Nat.zero_mul,List.drop_zero]
    have e2:((fun i=>List.take e.size (List.drop (i * e.size) cs)) ∘ Nat.succ)=fun i=>List.take e.size (List.drop (i * e.size) (cs.drop e.size)):=by
     funext i
     simp only [Function.comp,List.drop_drop]
     rw [Nat.succ_mul,Nat.add_comm]
    rw [e2,←this,List.take_append_drop]
  ·have hx:x=e.dflt:=by
    simp only [Ty.dflt] at hi
    rw [List.getElem?_replicate] at hi
    split at hi
    ·injection hi with hi; exact hi.symm
    ·cases hi
   rw [List.getElem?_map] at hc
   by_cases hin:i<n
   ·rw [List.getElem?_range hin] at hc
    simp only [Option.map_some,Option.some.injEq] at hc
    rw [hx,←hc]
    exact e.zeroOk_rep (h2 i hin)
   ·rw [List.getElem?_eq_none (by simpa using hin)] at hc
    cases hc
theorem qaO.zeroOk_rep {w:World} {F:Nat→Prop} :(b:qaO)→ {cs:List Value} →b.zeroOk cs=true→qP w F b.zero cs []
 | .val t,cs,h=>⟨rfl,t.zeroOk_rep h⟩
 | .own et e,cs,h=>by
  simp only [qaO.zeroOk] at h
  split at h
  ·exact ⟨_,rfl,qA.nil_ _ _ _ _⟩
  ·cases h
 | .pair a b,cs,h=>by
  simp only [qaO.zeroOk,Bool.and_eq_true] at h
  exact ⟨_,_,[],[],(List.take_append_drop a.zero.size cs).symm,rfl,a.zeroOk_rep h.1,b.zeroOk_rep h.2⟩
 | .hole n,cs,h=>⟨rfl,by simpa [qaO.zeroOk] using h⟩
theorem qcv {P:Program} {w:World} {t:Nat} {i:TypeInfo} (h:P.info? t=some i):(sizeOf t).run P w= .ok i.size w:=by
 simp [sizeOf,typeInfo,h]
theorem qjx {P:Program} : {fs:List Field} → {T:Ty} → {off:Nat} →qm5 P fs T off=true→Lay P fs T off
 |[],.unit,_,_=>trivial
 |f::fs,.pair a b,off,h=>by
  simp only [qm5,Bool.and_eq_true,decide_eq_true_eq] at h
  obtain ⟨⟨h1,h2⟩,h3⟩:=h
  split at h2
  ·rename_i i hi
   simp only [decide_eq_true_eq] at h2
   exact ⟨h1,fun w=>by rw [qcv hi,h2],qjx h3⟩
  ·cases h2
theorem qmF {P:Program} : {fs:List Field} → {l:List (Nat×Nat)} → {f:Nat} → {q:Nat×Nat} →fsOk P fs l=true→l[f]? =some q→∃fl,fs[f]? =some fl∧fl.offset=q.1∧fl.type=q.2∧∃i,P.info? fl.type=some i∧i.size≠0
 |fl::fs,(off,ft)::r,f,q,h,hq=>by
  simp only [fsOk,Bool.and_eq_true,decide_eq_true_eq] at h
  obtain ⟨⟨⟨h1,h2⟩,h3⟩,h4⟩:=h
  cases f with
  |zero=>
   simp at hq
   subst hq
   refine ⟨fl,rfl,h1,h2,?_⟩
   subst h2
   split at h3
   ·rename_i i hi
    exact ⟨i,hi,of_decide_eq_true h3⟩
   ·cases h3
  |succ f=>
   simp only [List.getElem?_cons_succ] at hq⊢
   exact qmF h4 hq
 |_,[],f,q,_,hq=>by simp at hq
 |[],_::_,_,_,h,_=>by cases h
theorem ql9 {P:Program} {T:List TI} (h:qoe P T=true) (fns:List (Nat×qz)):qai (Env.tab T fns) P:=by
 simp only [qoe,Bool.and_eq_true] at h
 have one:∀ {t:Nat} {x:TI},qfg T t=some x→x.t=t∧∃i d z,P.info? t=some i∧P.underlying t=some d∧i.zero=some z∧i.size=x.ty.size∧(x.ty.struct=true→x.ty.zeroOk z.cells.toList=true)∧x.z.zeroOk z.cells.toList=true∧qck P T x d x.ty=true∧((∃fs,d= .struct fs)∨x.fs=[])∧(x.eq=true→EqB P t x.ty):=by
  intro t x hx
  obtain ⟨h1,h2⟩:=qhQ hx
  have:=List.all_eq_true.1 h.2 x h1
  unfold tiOk at this
  split at this
  ·rename_i i d hi hd
   simp only [Bool.and_eq_true,decide_eq_true_eq] at this
   obtain ⟨⟨⟨⟨g1,g2⟩,g3⟩,g4⟩,g5⟩:=this
   split at g2
   ·rename_i z hz
    simp only [Bool.and_eq_true] at g2
    refine ⟨h2,i,d,z,h2 ▸ hi,h2 ▸ hd,hz,g1,fun hs=> ?_,g2.2,g3,?_⟩
    ·have:=g2.1
     rw [if_pos hs] at this
     exact this
    ·refine ⟨?_,fun he=> ?_⟩
     ·split at g4
      ·exact .inl ⟨_,rfl⟩
      ·exact .inr (by simpa using g4)
     ·rw [he] at g5
      exact h2 ▸ qnM g5
   ·cases g2
  ·cases this
 have ent:∀ {t:Nat} {u:Ty},(Env.tab T fns).ty t=some u→∃x,qfg T t=some x∧x.ty=u:=by
  intro t u hu
  simp only [Env.tab,Option.map_eq_some_iff] at hu
  exact hu
 have etid:∀ {t:Nat} {x:TI},qfg T t=some x→(Env.tab T fns).etid t=x.et:=by
  intro t x hx
  simp [Env.tab,hx]
 refine ⟨?_,?_,?_,?_,?_,?_,?_,?_,?_,?_,?_,?_,?_,?_,?_,h.1⟩
 ·intro t u hu
  obtain ⟨x,hx,rfl⟩:=ent hu
  obtain ⟨_,i,d,z,h1,h2,h3,h4,h5,h6,h7,h8,h9⟩:=one hx
  refine ⟨⟨i,h1,h4⟩,d,h2,?_⟩
  cases hty:x.ty <;> rw [hty] at h7 <;> simp only [qck] at h7 <;> split at h7 <;> first|rfl|cases h7
 ·intro t e hu
  obtain ⟨x,hx,hty⟩:=ent hu
  obtain ⟨_,i,d,z,h1,h2,h3,h4,h5,h6,h7,h8,h9⟩:=one hx
  rw [hty] at h7
  simp only [qck] at h7
  split at h7
  ·rename_i et
   simp only [Bool.and_eq_true,decide_eq_true_eq] at h7
   obtain ⟨rfl,h7⟩:=h7
   unfold qkT at h7
   split at h7
   ·rename_i ie hie
    simp only [Bool.and_eq_true,decide_eq_true_eq] at h7
    obtain ⟨⟨k1,k2⟩,k3⟩:=h7
    split at k2
    ·rename_i ze hze
     simp only [Bool.and_eq_true,decide_eq_true_eq] at k2
     refine ⟨by rw [etid hx]; exact h2,⟨ie,ze,by rw [etid hx]; exact hie,k1,hze,k2.1.2,?_⟩,fun k hk=>by rw [h2] at hk; cases hk⟩
     rw [etid hx]
     exact k3
    ·cases k2
   ·cases h7
  ·cases h7
 ·intro t e hu
  obtain ⟨x,hx,hty⟩:=ent hu
  obtain ⟨_,i,d,z,h1,h2,h3,h4,h5,h6,h7,h8,h9⟩:=one hx
  rw [hty] at h7
  simp only [qck] at h7
  split at h7
  ·rename_i et
   simp only [Bool.and_eq_true,decide_eq_true_eq] at h7
   obtain ⟨rfl,h7⟩:=h7
   unfold qkT at h7
   split at h7
   ·rename_i ie hie
    simp only [Bool.and_eq_true,decide_eq_true_eq] at h7
    obtain ⟨⟨k1,k2⟩,k3⟩:=h7
    split at k2
    ·rename_i ze hze
     simp only [Bool.and_eq_true,decide_eq_true_eq] at k2
     refine ⟨ie,ze,by rw [etid hx]; exact hie,hze,fun ha cs hcs=> ?_,fun w F=>e.zeroOk_rep k2.1.1⟩
     have:=k2.2
     rw [hcs] at this
     simp only at this
     rw [ha] at this
     cases this
    ·cases k2
   ·cases h7
  ·cases h7
 ·intro t e hu
  rcases hu with hu|⟨n,hu⟩
  ·obtain ⟨x,hx,hty⟩:=ent hu
   obtain ⟨_,i,d,z,h1,h2,h3,h4,h5,h6,h7,h8,h9⟩:=one hx
   rw [hty] at h7
   simp only [qck] at h7
   split at h7
   ·rename_i et
    simp only [Bool.and_eq_true,decide_eq_true_eq] at h7
    obtain ⟨rfl,h7⟩:=h7
    unfold qkT at h7
    split at h7
    ·rename_i ie hie
     simp only [Bool.and_eq_true,decide_eq_true_eq] at h7
     funext w
     rw [etid hx,qcv hie,h7.1.1]
    ·cases h7
   ·cases h7
  ·obtain ⟨x,hx,hty⟩:=ent hu
   obtain ⟨_,i,d,z,h1,h2,h3,h4,h5,h6,h7,h8,h9⟩:=one hx
   rw [hty] at h7
   simp only [qck] at h7
   split at h7
   ·rename_i m et
    simp only [Bool.and_eq_true,decide_eq_true_eq] at h7
    obtain ⟨⟨rfl,rfl⟩,h7⟩:=h7
    split at h7
    ·rename_i ie hie
     simp only [decide_eq_true_eq] at h7
     funext w
     rw [etid hx,qcv hie,h7]
    ·cases h7
   ·cases h7
 ·intro t n e hu
  obtain ⟨x,hx,hty⟩:=ent hu
  obtain ⟨_,i,d,z,h1,h2,h3,h4,h5,h6,h7,h8,h9⟩:=one hx
  rw [hty] at h7
  simp only [qck] at h7
  split at h7
  ·rename_i m et
   simp only [Bool.and_eq_true,decide_eq_true_eq] at h7
   obtain ⟨⟨rfl,rfl⟩,h7⟩:=h7
   rw [etid hx]
   exact h2
  ·cases h7
 ·intro t u hu hs
  obtain ⟨x,hx,hty⟩:=ent hu
  obtain ⟨_,i,d,z,h1,h2,h3,h4,h5,h6,h7,h8,h9⟩:=one hx
  rw [hty] at h7 h5
  have h5:=h5 hs
  cases u <;> simp only [Ty.struct] at hs <;> first|cases hs|skip
  all_goals
   simp only [qck] at h7
   split at h7
   ·rename_i fs
    simp only [Bool.and_eq_true] at h7
    exact ⟨fs,z,i,h2,h1,h3,fun w F=>Ty.zeroOk_rep _ h5,qjx h7.1⟩
   ·cases h7
 ·intro t hu
  obtain ⟨x,hx,hty⟩:=ent hu
  obtain ⟨_,i,d,z,h1,h2,h3,h4,h5,h6,h7,h8,h9⟩:=one hx
  rw [hty] at h7
  simp only [qck] at h7
  split at h7
  ·exact h2
  ·cases h7
 ·intro t k hu
  obtain ⟨x,hx,hty⟩:=ent hu
  obtain ⟨_,i,d,z,h1,h2,h3,h4,h5,h6,h7,h8,h9⟩:=one hx
  rw [hty] at h7
  simp only [qck] at h7
  split at h7
  ·simp only [decide_eq_true_eq] at h7
   subst h7
   exact h2
  ·cases h7
 ·intro t hu
  obtain ⟨x,hx,hty⟩:=ent hu
  obtain ⟨_,i,d,z,h1,h2,h3,h4,h5,h6,h7,h8,h9⟩:=one hx
  rw [hty] at h7
  simp only [qck] at h7
  split at h7
  ·exact h2
  ·cases h7
 ·intro t hu
  obtain ⟨x,hx,hty⟩:=ent hu
  obtain ⟨_,i,d,z,h1,h2,h3,h4,h5,h6,h7,h8,h9⟩:=one hx
  rw [hty] at h7
  simp only [qck] at h7
  split at h7
  ·exact ⟨_,h2⟩
  ·cases h7
 ·intro t e hu
  obtain ⟨x,hx,hty⟩:=ent hu
  obtain ⟨_,i,d,z,h1,h2,h3,h4,h5,h6,h7,h8,h9⟩:=one hx
  rw [hty] at h7
  simp only [qck] at h7
  split at h7
  ·exact ⟨_,h2⟩
  ·cases h7
 ·intro t k v hu
  obtain ⟨x,hx,hty⟩:=ent hu
  obtain ⟨_,i,d,z,h1,h2,h3,h4,h5,h6,h7,h8,h9⟩:=one hx
  rw [hty] at h7
  simp only [qck] at h7
  split at h7
  ·rename_i kn vn
   simp only [Bool.and_eq_true] at h7
   obtain ⟨⟨k1,k2⟩,k3⟩:=h7
   split at k2
   case h_2=>cases k2
   rename_i kd hkd
   split at k3
   case h_2=>cases k3
   rename_i iv hiv
   split at k3
   case h_2=>cases k3
   rename_i zv hzv
   simp only [Bool.and_eq_true] at k3
   refine ⟨kn,vn,kd,iv,zv,h2,hkd,k2,hiv,hzv,fun w F=>⟨v.zeroOk_rep k3.1,fun ha=> ?_,fun ha cs he=> ?_⟩⟩
   ·have k4:=k3.2
    split at k4
    ·exact ⟨_,rfl⟩
    ·rw [ha] at k4
     cases k4
   ·have k4:=k3.2
    rw [he] at k4
    simp only at k4
    rw [ha] at k4
    cases k4
  ·cases h7
 ·intro t f n ho
  simp only [Env.tab,Option.bind_eq_some_iff,Option.map_eq_some_iff] at ho
  obtain ⟨x,hx,q,hq,rfl⟩:=ho
  obtain ⟨_,i,d,z,h1,h2,h3,h4,h5,h6,h7,h8,h9⟩:=one hx
  rcases h8 with ⟨fs,rfl⟩|h8
  ·have hfs:fsOk P fs.toList x.fs=true:=by
    cases hty:x.ty <;> rw [hty] at h7 <;> simp only [qck] at h7 <;> first|(simp only [Bool.and_eq_true] at h7; exact h7.2)|cases h7
   obtain ⟨fl,g1,g2,g3,g4⟩:=qmF hfs hq
   refine ⟨fs,fl,h2,by simpa using g1,g2,?_,g4⟩
   simp [Env.tab,hx,hq,g3]
  ·rw [h8] at hq
   simp at hq
 ·intro t c hc
  simp only [Env.tab,Option.map_eq_some_iff] at hc
  obtain ⟨x,hx,rfl⟩:=hc
  obtain ⟨_,i,d,z,h1,h2,h3,h4,h5,h6,h7,h8,h9⟩:=one hx
  exact ⟨i,z,h1,h3,fun w F=>x.z.zeroOk_rep h6⟩
 ·intro t u he hu
  obtain ⟨x,hx,rfl⟩:=ent hu
  obtain ⟨_,i,d,z,h1,h2,h3,h4,h5,h6,h7,h8,h9⟩:=one hx
  exact h9 (by simpa [Env.tab,hx] using he)
theorem qmT {P:Program} {T:List TI} :qd8 (Env.tab T []) P:=fun f C h=>by cases h
theorem qlw {P:Program} {T:List TI} {fns:List (Nat×qz)} {f:Nat} {C:qz} (h:C.ok P f) (hF:qd8 (Env.tab T fns) P):qd8 (Env.tab T ((f,C)::fns)) P:=fun f' C' h'=>by
 simp only [Env.tab,qos] at h'
 split at h'
 ·rename_i e _
  injection h' with h'
  subst h'
  subst e
  exact h
 ·exact hF f' C' h'
end Go.Vi
namespace Go.Vi
open Go.RowKit Go.WideShapes Go.ChangeShapes
def qik (P:Program) (a:Nat→Bool) (sa:Nat) (b:List Field→Nat→Bool):List Field→Nat→Bool
 |f::r,off=>decide (f.offset=off)&&(decide (P.cellsOf f.type=sa)&&(a f.type&&b r (off+sa)))
 |[],_=>false
def qfK (P:Program):Ty→(Nat→Bool)×(List Field→Nat→Bool)
 | .int k=>(fun t=>match P.underlying t with
  |some (.int k')=>decide (k'=k)
  |_=>false,fun _ _=>false)
 | .bool=>(fun t=>match P.underlying t with
  |some .bool=>true
  |_=>false,fun _ _=>false)
 | .str=>(fun t=>match P.underlying t with
  |some .string=>true
  |_=>false,fun _ _=>false)
 | .err=>(fun _=>false,fun _ _=>false)
 | .opt _=>(fun _=>false,fun _ _=>false)
 | .map _ _=>(fun _=>false,fun _ _=>false)
 | .unit=>(fun t=>match P.underlying t with
  |some (.struct fs)=>fs.toList.isEmpty&&decide (P.cellsOf t=0)
  |_=>false,fun fs _=>fs.isEmpty)
 | .pair a b=>(fun t=>match P.underlying t with
  |some (.struct fs)=>qik P (qfK P a).1 a.size (qfK P b).2 fs.toList 0&&decide (P.cellsOf t=a.size+b.size)
  |_=>false,qik P (qfK P a).1 a.size (qfK P b).2)
 | .slice e=>(fun t=>match P.underlying t with
  |some (.slice et)=>decide (P.cellsOf et=e.size)&&(decide (e.size≠0)&&(qfK P e).1 et)
  |_=>false,fun _ _=>false)
 | .arr n e=>(fun t=>match P.underlying t with
  |some (.array m et)=>decide (m=n)&&(decide (P.cellsOf et=e.size)&&(decide (P.cellsOf t=n * e.size)&&(qfK P e).1 et))
  |_=>false,fun _ _=>false)
def Ty.bulk:(t:Ty)→t.den→Nat
 | .int _,_=>1
 | .bool,_=>1
 | .str,s=>List.length (α:=UInt8) s+1
 | .unit,_=>1
 | .err,_=>1
 | .opt _,_=>1
 | .map _ _,_=>1
 | .pair a b,x=>a.bulk x.1+b.bulk x.2
 | .slice e,xs=>(List.map e.bulk xs).sum+1
 | .arr _ e,xs=>(List.map e.bulk xs).sum+1
def Ty.good:(t:Ty)→t.den→Prop
 | .int k,n=>k.has n
 | .bool,_=>True
 | .str,s=>List.length (α:=UInt8) s≤maxLen
 | .unit,_=>True
 | .err,_=>True
 | .opt e,x=>match x with
  |some y=>e.good y
  |none=>True
 | .map _ _,_=>True
 | .pair a b,x=>a.good x.1∧b.good x.2
 | .slice e,xs=>List.length (xs:List e.den)≤maxLen∧∀y∈(xs:List e.den),e.good y
 | .arr _ e,xs=>∀y∈(xs:List e.den),e.good y
theorem Rep.good {w:World} {F:Nat→Prop} : {t:Ty} → {x:t.den} → {cs:List Value} →Rep w F t x cs→t.good x
 | .int _,_,_,h=>h.2
 | .bool,_,_,_=>trivial
 | .str,_,_,h=>h.2
 | .unit,_,_,_=>trivial
 | .err,_,_,_=>trivial
 | .map _ _,_,_,_=>trivial
 | .opt e,x,_,⟨v,_,h⟩=>by
  rcases h with ⟨rfl,_⟩|⟨y,a,cs,rfl,_,_,_,_,h⟩
  ·trivial
  ·exact h.good
 | .pair _ _,_,_,⟨_,_,_,h1,h2⟩=>⟨h1.good,h2.good⟩
 | .slice e,xs,_,⟨v,_,h⟩=>by
  refine ⟨?_,?_⟩
  ·rcases h with ⟨_,h⟩|⟨a,cap,_,h1,h2,_⟩
   ·have h:xs=[]:=h
    subst h
    exact Nat.zero_le _
   ·exact Nat.le_trans h1 h2
  intro y hy
  rcases h with ⟨_,h⟩|⟨a,cap,_,_,_,hx⟩
  ·have h:xs=[]:=h
   subst h
   cases hy
  ·obtain ⟨i,hi,rfl⟩:=List.getElem_of_mem hy
   obtain ⟨_,_,cs,_,h4⟩:=hx i _ (List.getElem?_eq_getElem hi)
   exact h4.good
 | .arr n e,xs,_,⟨hl,css,hcl,hc,hx⟩=>by
  intro y hy
  obtain ⟨i,hi,rfl⟩:=List.getElem_of_mem hy
  exact (hx i _ _ (List.getElem?_eq_getElem hi) (List.getElem?_eq_getElem (by have hi:i<List.length xs:=hi; omega))).good
def qi3:(us:List Ty)→PMs.den (us.map .val)→Prop
 |[],_=>True
 |u::us,x=>u.good x.1∧qi3 us x.2
theorem qM.good {P:Program} {w:World} {F:Nat→Prop} :(us:List Ty)→ {x:PMs.den (us.map .val)} → {vs:List Value} → {g i:List Nat} →qM P w F (us.map .val) x vs g i→qi3 us x
 |[],_,_,_,_,_=>trivial
 |_::us,_,_,_,_,⟨_,_,_,h2,h3⟩=>⟨h2.1.good,qM.good us h3⟩
structure qlr {H:Type} (bk:DataW H→Nat) (bkA:List (DataW H)→Nat):Prop where
 int:∀k n,1≤bk (.lit (.int k n))
 bool:∀b,1≤bk (.lit (.bool b))
 str:∀s,s.length+1≤bk (.lit (.string s))
 nil:1≤bk .nil
 slice:∀es sp,bkA es+1≤bk (.slice es sp)
 agg:∀ps,bkA ps+1≤bk (.agg ps)
 cons:∀d r,bk d+bkA r≤bkA (d::r)
section
variable {H:Type} {enc:TypeId×Value→H} {P:Program} {w:World} {bk:DataW H→Nat} {bkA:List (DataW H)→Nat}
theorem qiY {a:Addr} {n:Nat} {cs:List Value} (h:w.cells? 0 a n=some cs):cs.length=n∧qcU w a cs∧(n≠0→a.block<w.heap.size):=by
 obtain ⟨_,h1,h2⟩:=World.cells?_some h
 refine ⟨h1,fun j u hj=> ?_,fun hn=> ?_⟩
 ·have hlt:j<n:=by
   have:=(List.getElem?_eq_some_iff.1 hj).1
   omega
  rw [h2 j hlt]
  exact hj
 ·have h0:=h2 0 (by omega)
  have:∃v,cs[0]? =some v:=⟨_,List.getElem?_eq_getElem (by omega)⟩
  obtain ⟨v,hv⟩:=this
  rw [hv] at h0
  have e:a.add 0=a:=by simp [Addr.add]
  rw [e] at h0
  unfold World.cell? at h0
  split at h0
  ·rename_i c t hh
   exact (Array.getElem?_eq_some_iff.1 hh).1
  ·cases h0
theorem qiw {α β:Type} {R:Nat→α→β→Prop} :(n:Nat)→(ys:List β)→ys.length=n→(∀i y,ys[i]? =some y→∃x,R i x y)→∃xs:List α,xs.length=n∧∀(i:Nat) (x:α) (y:β),xs[i]? =some x→ys[i]? =some y→R i x y
 |0,ys,_,_=>⟨[],rfl,fun i x y h=>by simp at h⟩
 |n+1,[],h,_=>by simp at h
 |n+1,y::ys,h,hr=>by
  obtain ⟨x,hx⟩:=hr 0 y rfl
  obtain ⟨xs,h1,h2⟩:=qiw (R:=fun i=>R (i+1)) n ys (by simpa using h) fun i y hy=>hr (i+1) y (by simpa using hy)
  refine ⟨x::xs,by simp [h1],fun i x' y' hx' hy'=> ?_⟩
  cases i with
  |zero=>simp at hx' hy'; subst hx'; subst hy'; exact hx
  |succ i=>exact h2 i x' y' (by simpa using hx') (by simpa using hy')
theorem qim (hb:qlr bk bkA) {e:Ty} :(xs:List e.den)→(ys:List (DataW H×List MemPlace))→xs.length=ys.length→(∀(i:Nat) (x:e.den) (y:DataW H×List MemPlace),xs[i]? =some x→ys[i]? =some y→e.bulk x≤bk y.1)→(List.map e.bulk xs).sum≤bkA (ys.map (·.1))
 |[],_,_,_=>by simp
 |x::xs,[],h,_=>by simp at h
 |x::xs,y::ys,h,hr=>by
  have h0:=hr 0 x y rfl rfl
  have h1:=qim hb xs ys (by simpa using h) fun i x y hx hy=>hr (i+1) x y (by simpa using hx) (by simpa using hy)
  have:=hb.cons y.1 (ys.map (·.1))
  simp only [List.map_cons,List.sum_cons]
  omega
theorem qmm {t:Nat} (h:(qfK P .unit).1 t=true):∃fs,P.underlying t=some (.struct fs)∧fs.toList=[]∧P.cellsOf t=0:=by
 simp only [qfK] at h
 split at h
 ·rename_i fs hu
  simp only [Bool.and_eq_true,decide_eq_true_eq] at h
  exact ⟨fs,hu,by simpa using h.1,h.2⟩
 ·cases h
theorem qea (hb:qlr bk bkA):(u:Ty)→
  (∀(fuel t:Nat) (cs:List Value) (y:DataW H×List MemPlace),(qfK P u).1 t=true→DataW.trod enc P w 0 (fun _=>true) true fuel t cs=some y→∃x:u.den,Rep w (fun b=>b<w.heap.size) u x cs∧u.bulk x≤bk y.1)∧
  (∀(m:Nat) (fs:List Field) (off:Nat) (cs:List Value) (ys:List (DataW H×List MemPlace)),(qfK P u).2 fs off=true→ys.length=fs.length→(∀(i:Nat) (f:Field),fs[i]? =some f→DataW.trod enc P w 0 (fun _=>true) true m f.type ((cs.drop f.offset).take (P.cellsOf f.type))=ys[i]?)→cs.length=off+u.size→
   ∃x:u.den,Rep w (fun b=>b<w.heap.size) u x (cs.drop off)∧u.bulk x≤bkA (ys.map (·.1))+1)
 | .int k=>by
  refine ⟨fun fuel t cs y hd h=> ?_,fun m fs off cs ys hd=>by cases hd⟩
  simp only [qfK] at hd
  split at hd
  ·rename_i k' hu
   simp only [decide_eq_true_eq] at hd
   subst hd
   obtain ⟨n,rfl,rfl,hw⟩:=DataW.trod_int hu h
   refine ⟨n,⟨rfl,?_⟩,hb.int k' n⟩
   simpa [Lit.wf,IntKind.has] using hw
  ·cases hd
 | .bool=>by
  refine ⟨fun fuel t cs y hd h=> ?_,fun m fs off cs ys hd=>by cases hd⟩
  simp only [qfK] at hd
  split at hd
  ·rename_i hu
   obtain ⟨b,rfl,rfl⟩:=DataW.trod_bool hu h
   exact ⟨b,rfl,hb.bool b⟩
  ·cases hd
 | .err=>⟨fun fuel t cs y hd h=>(by cases hd),fun m fs off cs ys hd=>by cases hd⟩
 | .opt _=>⟨fun fuel t cs y hd h=>(by cases hd),fun m fs off cs ys hd=>by cases hd⟩
 | .map _ _=>⟨fun fuel t cs y hd h=>(by cases hd),fun m fs off cs ys hd=>by cases hd⟩
 | .str=>by
  refine ⟨fun fuel t cs y hd h=> ?_,fun m fs off cs ys hd=>by cases hd⟩
  simp only [qfK] at hd
  split at hd
  ·rename_i hu
   obtain ⟨s,rfl,rfl,hl⟩:=DataW.trod_string hu h
   refine ⟨s.data.toList,⟨by simp,?_⟩,hb.str _⟩
   rw [Array.length_toList]
   exact hl
  ·cases hd
 | .unit=>by
  refine ⟨fun fuel t cs y hd h=> ?_,fun m fs off cs ys hd hl _ hcl=> ?_⟩
  ·obtain ⟨fs,hu,hf,hc⟩:=qmm hd
   obtain ⟨xs,n,rfl,rfl,hl,_⟩:=DataW.trod_struct hu h
   have:cs=[]:=List.eq_nil_of_length_eq_zero (by omega)
   subst this
   have:=hb.agg (xs.map (·.1))
   exact ⟨(),rfl,by show 1≤_; simp only; omega⟩
  ·have:cs.drop off=[]:=List.drop_of_length_le (by rw [hcl]; exact Nat.le_refl _)
   exact ⟨(),this,by show 1≤_; omega⟩
 | .pair a b=>by
  obtain ⟨ha,_⟩:=qea hb a
  obtain ⟨_,hb2⟩:=qea hb b
  have fld:∀(m:Nat) (fs:List Field) (off:Nat) (cs:List Value) (ys:List (DataW H×List MemPlace)),qik P (qfK P a).1 a.size (qfK P b).2 fs off=true→ys.length=fs.length→(∀(i:Nat) (f:Field),fs[i]? =some f→DataW.trod enc P w 0 (fun _=>true) true m f.type ((cs.drop f.offset).take (P.cellsOf f.type))=ys[i]?)→cs.length=off+(a.size+b.size)→
   ∃x:(Ty.pair a b).den,Rep w (fun b=>b<w.heap.size) (.pair a b) x (cs.drop off)∧(Ty.pair a b).bulk x≤bkA (ys.map (·.1))+1:=by
   intro m fs off cs ys hd hl hi hcl
   cases fs with
   |nil=>cases hd
   |cons f r=>
    simp only [qik,Bool.and_eq_true,decide_eq_true_eq] at hd
    obtain ⟨h1,h2,h3,h4⟩:=hd
    cases ys with
    |nil=>simp at hl
    |cons y ys=>
     have h0:=hi 0 f rfl
     rw [h1,h2] at h0
     obtain ⟨xa,k1,k2⟩:=ha m f.type _ y h3 h0
     obtain ⟨xb,k3,k4⟩:=hb2 m r (off+a.size) cs ys h4 (by simpa using hl) (fun i f' hf'=>by have:=hi (i+1) f' (by simpa using hf'); simpa using this) (by omega)
     refine ⟨(xa,xb),⟨_,_,?_,k1,k3⟩,?_⟩
     ·rw [←List.drop_drop,List.take_append_drop]
     ·have:=hb.cons y.1 (ys.map (·.1))
      show a.bulk xa+b.bulk xb≤_
      simp only [List.map_cons]
      omega
  refine ⟨fun fuel t cs y hd h=> ?_,fld⟩
  simp only [qfK] at hd
  split at hd
  ·rename_i fs hu
   simp only [Bool.and_eq_true,decide_eq_true_eq] at hd
   obtain ⟨xs,n,rfl,rfl,hl,hxl,hxi⟩:=DataW.trod_struct hu h
   obtain ⟨x,k1,k2⟩:=fld n fs.toList 0 cs xs hd.1 (by simpa using hxl) (fun i f hf=>hxi i f (by simpa using hf)) (by omega)
   have:=hb.agg (xs.map (·.1))
   exact ⟨x,by simpa using k1,by simp only; omega⟩
  ·cases hd
 | .slice e=>by
  obtain ⟨he,_⟩:=qea hb e
  refine ⟨fun fuel t cs y hd h=> ?_,fun m fs off cs ys hd=>by cases hd⟩
  simp only [qfK] at hd
  split at hd
  ·rename_i et hu
   simp only [Bool.and_eq_true,decide_eq_true_eq] at hd
   obtain ⟨h1,h2,h3⟩:=hd
   rcases DataW.trod_slice hu h with ⟨rfl,rfl⟩|⟨a,len,cap,elems,rest,n,rfl,rfl,rfl,_,g1,g2,g3,g4,_⟩
   ·exact ⟨[],⟨_,rfl,.inl ⟨rfl,rfl⟩⟩,by show 0+1≤_; exact hb.nil⟩
   ·obtain ⟨xs,k1,k2⟩:=qiw (α:=e.den) (R:=fun i x y=>a.block<w.heap.size∧(∃cs,qcU w (a.add (i * e.size)) cs∧Rep w (fun b=>b<w.heap.size) e x cs)∧e.bulk x≤bk y.1) len elems g3 (fun i y hy=>by
     have hlt:i<len:=by
      have:=(List.getElem?_eq_some_iff.1 hy).1
      omega
     have:=g4 i hlt
     rw [hy,h1] at this
     obtain ⟨cs,hc1,hc2⟩:=Option.bind_eq_some_iff.1 this
     obtain ⟨q1,q2,q3⟩:=qiY hc1
     obtain ⟨x,r1,r2⟩:=he n et cs y h3 hc2
     exact ⟨x,by simpa [qE] using q3 h2,⟨cs,q2,r1⟩,r2⟩)
    have idx:∀(i:Nat) (x:e.den),xs[i]? =some x→∃y,elems[i]? =some y:=fun i x hx=>⟨_,List.getElem?_eq_getElem (by have:=(List.getElem?_eq_some_iff.1 hx).1; omega)⟩
    refine ⟨xs,⟨_,rfl,.inr ⟨a,cap,by rw [k1],by omega,g2,fun i x hx=> ?_⟩⟩,?_⟩
    ·obtain ⟨y,hy⟩:=idx i x hx
     obtain ⟨q1,q2,_⟩:=k2 i x y hx hy
     exact ⟨q1,q1,q2⟩
    ·have:=qim hb xs elems (by omega) fun i x y hx hy=>(k2 i x y hx hy).2.2
     have:=hb.slice (elems.map (·.1)) (rest.map (·.1))
     show (List.map e.bulk xs).sum+1≤_
     simp only
     omega
  ·cases hd
 | .arr n e=>by
  obtain ⟨he,_⟩:=qea hb e
  refine ⟨fun fuel t cs y hd h=> ?_,fun m fs off cs ys hd=>by cases hd⟩
  simp only [qfK] at hd
  split at hd
  ·rename_i m et hu
   simp only [Bool.and_eq_true,decide_eq_true_eq] at hd
   obtain ⟨rfl,h1,h2,h3⟩:=hd
   obtain ⟨ys,k,rfl,rfl,g1,g2,g3⟩:=DataW.trod_array hu h
   obtain ⟨xs,k1,k2⟩:=qiw (α:=e.den) (R:=fun i x y=>Rep w (fun b=>b<w.heap.size) e x ((cs.drop (i * e.size)).take e.size)∧e.bulk x≤bk y.1) m ys g2 (fun i y hy=>by
    have hlt:i<m:=by
     have:=(List.getElem?_eq_some_iff.1 hy).1
     omega
    have:=g3 i hlt
    rw [hy,h1] at this
    exact he k et _ y h3 this)
   refine ⟨xs,⟨k1,(List.range m).map (fun i=>(cs.drop (i * e.size)).take e.size),by simp,?_,fun i x c hi hc=> ?_⟩,?_⟩
   ·rw [h2] at g1
    clear g3 k2 k1 g2 h hu h2
    induction m generalizing cs with
    |zero=>simp at g1; subst g1; rfl
    |succ m ih=>
     have:=ih (cs:=cs.drop e.size) (by rw [List.length_drop,g1,Nat.add_mul]; omega)
     rw [List.range_succ_eq_map,List.map_cons,List.flatten_cons,List.map_map]
     rw [Nat.zero_mul,List.drop_zero]
     have e2:((fun i=>List.take e.size (List.drop (i * e.size) cs)) ∘ Nat.succ)=fun i=>List.take e.size (List.drop (i * e.size) (cs.drop e.size)):=by
      funext i
      simp only [Function.comp,List.drop_drop]
      rw [Nat.succ_mul,Nat.add_comm]
     rw [e2,←this,List.take_append_drop]
   ·have hlt:i<m:=by
     have:=(List.getElem?_eq_some_iff.1 hi).1
     omega
    have hy:ys[i]? =some (ys[i]'(by omega)):=List.getElem?_eq_getElem (by omega)
    rw [List.getElem?_map,List.getElem?_range hlt] at hc
    simp only [Option.map_some,Option.some.injEq] at hc
    rw [←hc]
    exact (k2 i x _ hi hy).1
   ·have:=qim hb xs ys (by omega) fun i x y hx hy=>(k2 i x y hx hy).2
    have:=hb.agg (ys.map (·.1))
    show (List.map e.bulk xs).sum+1≤_
    simp only
    omega
  ·cases hd
theorem qmV {u:Ty} {t:Nat} {v:Value} {r:Reach} {b0:Nat} (hd:(qfK P u).1 t=true) (hv:Value.okWide P w r b0 t v):(u.agg=true→∃cs,v= .agg cs)∧(u.agg=false→∀cs,v≠ .agg cs):=by
 cases u with
 |err=>cases hd
 |opt _=>cases hd
 |map _ _=>cases hd
 |int k=>
  simp only [qfK] at hd
  split at hd
  ·rename_i hu
   obtain ⟨n,rfl⟩:=okWide_int hu hv
   exact ⟨fun h=>(by cases h),fun _ cs h=>(by cases h)⟩
  ·cases hd
 |bool=>
  simp only [qfK] at hd
  split at hd
  ·rename_i hu
   obtain ⟨n,rfl⟩:=okWide_bool hu hv
   exact ⟨fun h=>(by cases h),fun _ cs h=>(by cases h)⟩
  ·cases hd
 |str=>
  simp only [qfK] at hd
  split at hd
  ·rename_i hu
   obtain ⟨n,rfl⟩:=okWide_string hu hv
   exact ⟨fun h=>(by cases h),fun _ cs h=>(by cases h)⟩
  ·cases hd
 |slice e=>
  simp only [qfK] at hd
  split at hd
  ·rename_i hu
   obtain ⟨a,n,c,rfl⟩:=okWide_slice hu hv
   exact ⟨fun h=>(by cases h),fun _ cs h=>(by cases h)⟩
  ·cases hd
 |unit=>
  simp only [qfK] at hd
  split at hd
  ·rename_i hu
   obtain ⟨cs,h,_⟩:=okWide_struct hu hv
   exact ⟨fun _=>⟨cs,h⟩,fun h=>(by cases h)⟩
  ·cases hd
 |pair a b=>
  simp only [qfK] at hd
  split at hd
  ·rename_i hu
   obtain ⟨cs,h,_⟩:=okWide_struct hu hv
   exact ⟨fun _=>⟨cs,h⟩,fun h=>(by cases h)⟩
  ·cases hd
 |arr n e=>
  simp only [qfK] at hd
  split at hd
  ·rename_i hu
   unfold Value.okWide at hv
   rw [hu] at hv
   obtain ⟨cs,h,_⟩:=hv
   exact ⟨fun _=>⟨cs,h⟩,fun h=>(by cases h)⟩
  ·cases hd
def qgo:(us:List Ty)→PMs.den (us.map .val)→Nat
 |[],_=>0
 |u::us,x=>u.bulk x.1+qgo us x.2
def qe8 (P:Program):List Ty→List Nat→Bool
 |[],[]=>true
 |u::us,t::ts=>(qfK P u).1 t&&qe8 P us ts
 |_,_=>false
theorem qjD (hb:qlr bk bkA) {r:Reach} {b0:Nat} :(us:List Ty)→ {ts:List Nat} → {vs:List Value} → {ds:List (DataW H)} → {ps:List MemPlace} →qe8 P us ts=true→(∀(j:Nat) t v,ts[j]? =some t→vs[j]? =some v→Value.okWide P w r b0 t v)→
  DataW.TrodAll enc P w 0 (fun _=>true) true ts vs ds ps→∃x:PMs.den (us.map .val),qM P w (fun b=>b<w.heap.size) (us.map .val) x vs [] []∧qgo us x≤bkA ds
 |[],[],vs,ds,ps,_,_,h=>by
  obtain ⟨rfl,rfl,rfl⟩:=trodAll_nil h
  exact ⟨(),⟨rfl,rfl,rfl⟩,Nat.zero_le _⟩
 |u::us,t::ts,vs,ds,ps,hd,hv,h=>by
  simp only [qe8,Bool.and_eq_true] at hd
  obtain ⟨v,vs',d,ds',p,q,rfl,rfl,rfl,h0,hr⟩:=trodAll_cons h
  obtain ⟨fuel,h0⟩:=h0
  obtain ⟨x,k1,k2⟩:=(qea hb u).1 fuel t _ _ hd.1 h0
  obtain ⟨xs,k3,k4⟩:=qjD hb us hd.2 (fun j t' v' ht hv'=>hv (j+1) t' v' (by simpa using ht) (by simpa using hv')) hr
  have:=hb.cons d ds'
  exact ⟨(x,xs),⟨v,vs',rfl,⟨k1,qmV hd.1 (hv 0 t v rfl rfl)⟩,k3⟩,by show u.bulk x+qgo us xs≤_; simp only at k2; omega⟩
theorem qjz {W W':World} {sp:Nat→Bool} (hl:laidOutB P=true): {ts:List Nat} → {vs:List Value} → {ds:List (DataW H)} → {ps:List MemPlace} →(∀t∈ts,P.readableRec t=true∧t<P.types.size)→DataW.TrodAll enc P W 0 (fun _=>true) true ts vs ds ps→Below W.heap.size W W'→(∀x∈ps,x.block<W.heap.size)→(∀x∈ps,sp x.block=true)→
  DataW.TrodAll enc P W' 0 sp true ts vs ds ps
 |[],_,_,_,_,h,_,_,_=>by
  obtain ⟨rfl,rfl,rfl⟩:=trodAll_nil h
  rfl
 |t::ts,_,_,_,ht,h,hb,hlt,hs=>by
  obtain ⟨v,vs',d,ds',p,q,rfl,rfl,rfl,h0,hr⟩:=trodAll_cons h
  exact trodAll_cons_mk (WideElems.Trod_stays hl (ht t List.mem_cons_self).1 (ht t List.mem_cons_self).2 h0 (fun x hx=>hb.same (hlt x (List.mem_append_left _ hx))) fun x hx=>hs x (List.mem_append_left _ hx)) (qjz hl (fun t' h'=>ht t' (List.mem_cons_of_mem _ h')) hr hb (fun x hx=>hlt x (List.mem_append_right _ hx)) fun x hx=>hs x (List.mem_append_right _ hx))
end
end Go.Vi
namespace Go.Vi
open Go.RowKit Go.WideShapes Go.ChangeShapes
section
variable {H:Type} {enc:TypeId×Value→H} {P:Program}
theorem qlx {f:Func} {s:ChangeSpec} {apart fresh handsOn again:Bool} {W W':World} {args:Array Value} {v:Value} {ds gs:List (DataW H)} {before pa pv:List MemPlace}
  (hW:DataW.Whole enc P f.params.toList s.vars apart W args.toList ds gs before)
  (hres:∀(b:Nat) (sp:Nat→Bool) (hd:Bool),DataW.TrodAll enc P W' b sp hd f.resultTypes.toList (v.resultList f.resultTypes.size) (s.fn H (ds++gs)).results [])
  (hargs:∀sp:Nat→Bool,(∀p∈before,sp p.block=true)→DataW.TrodAll enc P W' 0 sp true f.params.toList args.toList (s.fn H (ds++gs)).args pa)
  (hvars:∀sp:Nat→Bool,(∀p∈before,sp p.block=true)→DataW.TrodVars enc P W' sp s.vars (s.fn H (ds++gs)).vars pv)
  (hps:before=pa++pv) (hb:Below W.heap.size W W')
  (hok:∀(j:Nat) (t:TypeId) (r:Value),f.resultTypes[j]? =some t→(v.resultList f.resultTypes.size)[j]? =some r→Value.okWide P W' .any 0 t r):
  s.post enc P f apart fresh handsOn again W args v W':=by
 have hlt:∀p∈before,p.block<W.heap.size:=fun p hp=>hW.lt p hp
 have hold:∀p∈before,(fun b=>decide (b<W.heap.size)) p.block=true:=fun p hp=>by simpa using hlt p hp
 refine ⟨ds,gs,before,[],pa,pv,hW,hres _ _ _,hargs _ hold,hvars _ hold,World.keptBut_mono (fun p hp=>⟨hp,?_⟩) (hb.frame (· ∈before)),fun _=> ?_⟩
 ·rw [hps,List.mem_append] at hp
  exact Or.inr hp
 ·obtain ⟨_,_,_,_,_,hz,hn⟩:=hW
  refine ⟨hok,_,_,([]++pa)++pv,⟨[]++pa,pv,trodAll_append (hargs _ (fun _ _=>rfl)) (hres _ _ _),hvars _ (fun _ _=>rfl),rfl,?_,?_⟩,?_⟩
  ·intro b off hp
   have hin:MemPlace.cell b off∈before:=by rw [hps]; simpa using hp
   rw [hb.frozen (hlt _ hin)]
   exact hz b off hin
  ·intro ha
   have:=hn ha
   rw [hps] at this
   simpa using this
  ·intro p hp _
   rw [hps]
   simpa using hp
theorem qiq {T:qn5} {bk:DataW H→Nat} {bkA:List (DataW H)→Nat} (hb:qlr bk bkA) {B:Nat} {fi:Nat} {fn:Func} {s:ChangeSpec} {apart fresh handsOn again:Bool} {us:List Ty} {ts:List Nat} {tb:Nat} {sem:Nat→PMs.den (us.map .val)→Option (RMs.den [.val .bool]×PMs.ioDen (us.map .val))}
  (hp:fn.params.toList=ts) (hr:fn.resultTypes= #[tb]) (htb:P.underlying tb=some .bool) (hdeep:qe8 P us ts=true) (hl:laidOutB P=true) (hread:ts.all (fun t=>P.readableRec t&&decide (t<P.types.size))=true) (hvars:s.vars=[])
  (hfn:∀ds:List (DataW H),ds.length=us.length→s.fn H ds= { results:=[.lit (.bool true)],args:=ds })
  (hC:∀N,qz.okT P T fi ⟨us.map .val,[.val .bool],sem N⟩) (hsem:∀x,qi3 us x→qgo us x≤B→∃N z,sem N x=some ((true,()),z))
  {W:World} {args:Array Value} {ds gs:List (DataW H)} {before:List MemPlace} {r:Reach} {base:Nat}
  (hT:qcl T W fun b=>b<W.heap.size)
  (hval:∀(j:Nat) t v,fn.params[j]? =some t→args[j]? =some v→Value.okWide P W r base t v)
  (hW:DataW.Whole enc P fn.params.toList s.vars apart W args.toList ds gs before) (hk:bkA (ds++gs)≤B):
  Calls P fi args W fun e W'=>∃v,e= .returned v∧s.post enc P fn apart fresh handsOn again W args v W':=by
 have hW':=hW
 obtain ⟨p,q,hA,hV,rfl,hfz,hnd⟩:=hW
 rw [hvars] at hV
 obtain ⟨rfl,rfl⟩:=trodVars_none hV
 rw [hp] at hA
 have hrd:∀t∈ts,P.readableRec t=true∧t<P.types.size:=fun t ht=>by
  have:=List.all_eq_true.1 hread t ht
  simpa using this
 have hlen:∀ {ts:List Nat} {us:List Ty} {vs:List Value} {ds:List (DataW H)} {p:List MemPlace},qe8 P us ts=true→DataW.TrodAll enc P W 0 (fun _=>true) true ts vs ds p→ds.length=us.length:=by
  intro ts
  induction ts with
  |nil=>
   intro us vs ds p hd h
   obtain ⟨rfl,rfl,rfl⟩:=trodAll_nil h
   cases us with
   |nil=>rfl
   |cons u us=>cases hd
  |cons t ts ih=>
   intro us vs ds p hd h
   obtain ⟨v,vs',d,ds',p,q,rfl,rfl,rfl,h0,hr⟩:=trodAll_cons h
   cases us with
   |nil=>cases hd
   |cons u us=>
    simp only [qe8,Bool.and_eq_true] at hd
    simp only [List.length_cons]
    rw [ih hd.2 hr]
 have hdl:=hlen hdeep hA
 obtain ⟨x,k1,k2⟩:=qjD hb us hdeep (fun j t v ht hv=>hval j t v (by rw [←Array.getElem?_toList,hp]; exact ht) (by rw [←Array.getElem?_toList]; exact hv)) hA
 rw [List.append_nil] at hk
 obtain ⟨N,z,hz⟩:=hsem x (qM.good us k1) (by omega)
 have:=(hC N).2 W (fun b=>b<W.heap.size) x ((true,()),z) args.toList [] [] hT k1 (fun b hb=>by cases hb) List.nodup_nil hz
 rw [Array.toArray_toList] at this
 refine this.mono fun e W' ⟨v,he,vs,bs,js,hv,_,_,hcs,_,hkept⟩=>⟨v,he,?_⟩
 obtain ⟨v',r',b1,b2,rfl,rfl,⟨rfl,hrep,_,hna⟩,hnil,_⟩:=hcs
 subst hnil
 have hv':v'= .bool true:=by
  have:v'.cells.toList=[.bool true]:=hrep
  have hna:=hna rfl
  cases v' <;> simp_all [Value.cells]
 rw [hv'] at hv
 have hv:v= .bool true:=hv
 rw [hv]
 have hbelow:Below W.heap.size W W':=⟨hkept.os,hkept.tape,hkept.output,hkept.size,fun k hk=>hkept.block k hk fun h=>by cases h⟩
 have hlt:∀x∈p,x.block<W.heap.size:=fun x hx=>hW'.lt x (by simpa using hx)
 refine qlx (pa:=p) (pv:=[]) hW' (fun b sp hd=> ?_) (fun sp hsp=> ?_) (fun sp _=> ?_) rfl hbelow (ok_one hr rfl (okWide_bool_mk htb true))
 ·rw [List.append_nil,hfn ds hdl,hr]
  exact trodAll_cons_mk (p':=[]) (shut_bool htb true) trodAll_mk0
 ·rw [List.append_nil,hfn ds hdl,hp]
  exact qjz hl hrd hA hbelow hlt fun x hx=>hsp x (by simpa using hx)
 ·rw [List.append_nil,hfn ds hdl,hvars]
  rfl
theorem qjO {bk:DataW H→Nat} {bkA:List (DataW H)→Nat} (hb:qlr bk bkA) {B:Nat} {fi:Nat} {fn:Func} {s:ChangeSpec} {apart fresh handsOn again:Bool} {us:List Ty} {ts:List Nat} {tb:Nat} {sem:Nat→PMs.den (us.map .val)→Option (RMs.den [.val .bool]×PMs.ioDen (us.map .val))}
  (hp:fn.params.toList=ts) (hr:fn.resultTypes= #[tb]) (htb:P.underlying tb=some .bool) (hdeep:qe8 P us ts=true) (hl:laidOutB P=true) (hread:ts.all (fun t=>P.readableRec t&&decide (t<P.types.size))=true) (hvars:s.vars=[])
  (hfn:∀ds:List (DataW H),ds.length=us.length→s.fn H ds= { results:=[.lit (.bool true)],args:=ds })
  (hC:∀N,qz.ok P fi ⟨us.map .val,[.val .bool],sem N⟩) (hsem:∀x,qi3 us x→qgo us x≤B→∃N z,sem N x=some ((true,()),z))
  {W:World} {args:Array Value} {ds gs:List (DataW H)} {before:List MemPlace} {r:Reach} {base:Nat}
  (hval:∀(j:Nat) t v,fn.params[j]? =some t→args[j]? =some v→Value.okWide P W r base t v)
  (hW:DataW.Whole enc P fn.params.toList s.vars apart W args.toList ds gs before) (hk:bkA (ds++gs)≤B):
  Calls P fi args W fun e W'=>∃v,e= .returned v∧s.post enc P fn apart fresh handsOn again W args v W':=by
 exact qiq hb hp hr htb hdeep hl hread hvars hfn hC hsem qcl.none hval hW hk
end
end Go.Vi
namespace Go.Vi
theorem qdj {S R:Type} (n:Nat) (step:(S→Option R)→S→Option R) (s:S):qc8 (n+1) step s=step (qc8 n step) s:=rfl
theorem ql {α:Type} (x:α):qae (some x)=true:=by rw [qeh]; rfl
theorem qu {α:Type} (x d:α):qaQ (some x) d=x:=by rw [qgl]; rfl
theorem qjL {z:Int} (h1: -9223372036854775808≤z) (h2:z<9223372036854775808):IntKind.wrap .i64 z=z:=by
 simp [IntKind.wrap,IntKind.signed,IntKind.bits]
 split <;> omega
theorem qd {α:Type} {c:Bool} {a b:α} (h:c=true):(bif c then a else b)=a:=by rw [h]; rfl
theorem qx {α:Type} {c:Bool} {a b:α} (h:c=false):(bif c then a else b)=b:=by rw [h]; rfl
theorem qbG (x y:Int):eqI x y=decide (x=y):=by rw [qeb]; rfl
theorem qaN (x y:Int):neI x y= !decide (x=y):=by rw [qfR]; rfl
theorem qd9 (x y:List UInt8):eqS x y=decide (x=y):=by rw [qiN]; by_cases h:x=y <;> simp [h]
end Go.Vi
namespace Go.Vi
theorem qjU {S R:Type} {step:(S→Option R)→S→Option R} {s0:S} (st:Nat→S) (n:Nat) (r:Option R) (h0:st 0=s0) (hs:∀i,i<n→∀ih,step ih (st i)=ih (st (i+1))) (he:∀ih,step ih (st n)=r) {N:Nat} (hN:n<N):qc8 N step s0=r:=by
 rw [←h0]
 have:∀k i,i+k=n→∀M,k<M→qc8 M step (st i)=r:=by
  intro k
  induction k with
  |zero=>
   intro i hi M hM
   obtain ⟨M,rfl⟩:∃m,M=m+1:=⟨M - 1,by omega⟩
   rw [qdj,show i=n by omega]; exact he _
  |succ k ih=>
   intro i hi M hM
   obtain ⟨M,rfl⟩:∃m,M=m+1:=⟨M - 1,by omega⟩
   rw [qdj,hs i (by omega)]
   exact ih (i+1) (by omega) M (by omega)
 exact this n 0 (by omega) N hN
theorem qag (x y:Int):ltI x y=decide (x<y):=qin x y
theorem qgS (x y:Int):leI x y=decide (x≤y):=qds x y
theorem qaF (i n:Int):inB i n=decide (0≤i∧i<n):=by rw [qgy]; simp
theorem qg9 (l h n:Int):inS l h n=decide (0≤l∧l≤h∧h≤n):=by rw [qiX]; simp
theorem qcz {x y:Int} (h1: -9223372036854775808≤x+y) (h2:x+y<9223372036854775808):qaX .i64 x y=x+y:=by rw [qbf,qjL h1 h2]
theorem qcJ {x y:Int} (h1: -9223372036854775808≤x - y) (h2:x - y<9223372036854775808):qcQ .i64 x y=x - y:=by rw [qew,qjL h1 h2]
theorem qff {x y:Int} (h1: -9223372036854775808≤x * y) (h2:x * y<9223372036854775808):qfc .i64 x y=x * y:=by rw [qiH,qjL h1 h2]
theorem qgJ {x:Int} (h1: -9223372036854775808≤x) (h2:x<9223372036854775808):qaw .i64 x=x:=by rw [qen,qjL h1 h2]
theorem qbe {i:Nat} (h:i<4611686018427387904):qaX .i64 (i:Int) 1=((i+1:Nat):Int):=by
 rw [qbf,qjL (by omega) (by omega)]
 omega
theorem qnQ {α β:Type} {xs:List α} {ys:List β} {b:Nat} (h:(xs.length+ys.length) * b≤140737488355328):qhz (qR xs) (qR ys) b=true:=by
 rw [qd6,qf,qf]
 refine decide_eq_true ?_
 have:(((xs.length+ys.length) * b:Nat):Int)≤140737488355328:=by omega
 rwa [Int.natCast_mul,Int.natCast_add] at this
theorem qh2 {α:Type} (xs:List α) (i:Nat):qQ xs (i:Int) (qR xs)=xs.drop i:=by
 rw [qaW,qf]; simp
theorem qk4 {α:Type} (xs:List α) (i:Nat):qQ xs 0 (i:Int)=xs.take i:=by
 rw [qaW]; simp
theorem qkU {α:Type} (xs:List α) (i j:Nat):qQ xs (i:Int) (j:Int)=(xs.take j).drop i:=by
 rw [qaW]; simp
theorem qoA (n:Int):IntKind.wrap .u8 n=n % 256:=by simp [IntKind.wrap,IntKind.signed,IntKind.bits]
theorem qeG {n:Int} (h1:0≤n) (h2:n<256):qaw .u8 n=n:=by rw [qen,qoA]; omega
theorem qdm {α β:Type} (p:α×β) (xs:List (α×β)) (k:α) (d:β):qcY (p::xs) k d=open Classical in if p.1=k then p.2 else qcY xs k d:=by
 rw [qcN,qcN]
 have:qb7 (p::xs) k=open Classical in if p.1=k then 0 else qb7 xs k+1:=by
  unfold qb7
  rw [List.findIdx_cons]
  by_cases h:p.1=k <;> simp [h]
 rw [this]
 by_cases h:p.1=k <;> simp [h]
theorem qkS {α β:Type} (k:α) (d:β):qcY ([]:List (α×β)) k d=d:=by rw [qcN]; rfl
theorem qiW {α β:Type} (k:α) (v:β):qfz ([]:List (α×β)) k v=[(k,v)]:=by rw [qex]; rfl
theorem qjy {α β:Type} (p:α×β) (xs:List (α×β)) (k:α) (v:β):qfz (p::xs) k v=open Classical in if p.1=k then (p.1,v)::xs else p::qfz xs k v:=by
 rw [qex,qex]
 have:qb7 (p::xs) k=open Classical in if p.1=k then 0 else qb7 xs k+1:=by
  unfold qb7
  rw [List.findIdx_cons]
  by_cases h:p.1=k <;> simp [h]
 rw [this]
 by_cases h:p.1=k
 ·simp [h,qlj]
 ·simp only [h,if_false,List.length_cons,Nat.add_lt_add_iff_right]
  by_cases h2:qb7 xs k<xs.length
  ·simp only [h2,if_true,qlj,List.getElem?_cons_succ,List.getElem?_eq_getElem h2,List.set_cons_succ]
  ·simp [h2]
theorem qms {α β:Type} (xs:List (α×β)) (k:α) (v:β) (k':α) (d:β):qcY (qfz xs k v) k' d=open Classical in if k=k' then v else qcY xs k' d:=by
 induction xs with
 |nil=>rw [qiW,qdm]
 |cons p r ih=>
  rw [qjy]
  by_cases h:p.1=k
  ·rw [if_pos h,qdm,qdm]
   by_cases h2:k=k'
   ·simp [h,h2]
   ·simp [h,h2]
  ·rw [if_neg h,qdm,qdm,ih]
   by_cases h2:p.1=k'
   ·have:¬k=k':=fun e=>h (h2.trans e.symm)
    simp [h2,this]
   ·simp [h2]
def qaU {E:Type} (g:Nat→Option E):Nat→Option E
 |0=>none
 |n+1=>match qaU g n with
  |some e=>some e
  |none=>g n
theorem qbF {E:Type} {g:Nat→Option E} : {n:Nat} →qaU g n=none→∀i,i<n→g i=none
 |0,_,i,hi=>by omega
 |n+1,h,i,hi=>by
  simp only [qaU] at h
  split at h
  ·cases h
  ·rename_i h0
   by_cases e:i=n
   ·rw [e]; exact h
   ·exact qbF h0 i (by omega)
theorem qhe {E:Type} {g:Nat→Option E} {e:E} : {n:Nat} →qaU g n=some e→∃i,i<n∧g i=some e∧qaU g i=none
 |0,h=>by cases h
 |n+1,h=>by
  simp only [qaU] at h
  split at h
  ·rename_i e' h0
   injection h with h
   subst h
   obtain ⟨i,h1,h2⟩:=qhe h0
   exact ⟨i,by omega,h2⟩
  ·rename_i h0
   exact ⟨n,by omega,h,h0⟩
theorem qcx {S R E:Type} {step:(S→Option R)→S→Option R} {s0:S} (st:Nat→S) (n:Nat) (g:Nat→Option E) (out:E→Option R) (fin:Option R) (h0:st 0=s0)
  (hs:∀i,i<n→qaU g i=none→∀ih,step ih (st i)=match g i with
   |some e=>out e
   |none=>ih (st (i+1)))
  (he:qaU g n=none→∀ih,step ih (st n)=fin) {N:Nat} (hN:n<N):qc8 N step s0=match qaU g n with
   |some e=>out e
   |none=>fin:=by
 rw [←h0]
 have:∀k i,i+k=n→qaU g i=none→∀M,k<M→qc8 M step (st i)=match qaU g n with
   |some e=>out e
   |none=>fin:=by
  intro k
  induction k with
  |zero=>
   intro i hi hg M hM
   obtain ⟨M,rfl⟩:∃m,M=m+1:=⟨M - 1,by omega⟩
   have hin:i=n:=by omega
   subst hin
   rw [qdj,hg]
   exact he hg _
  |succ k ih=>
   intro i hi hg M hM
   obtain ⟨M,rfl⟩:∃m,M=m+1:=⟨M - 1,by omega⟩
   rw [qdj,hs i (by omega) hg]
   cases hgi:g i with
   |none=>exact ih (i+1) (by omega) (by simp only [qaU,hg,hgi]) M (by omega)
   |some e=>
    have:∀m,qaU g (i+1+m)=some e:=by
     intro m
     induction m with
     |zero=>simp only [Nat.add_zero,qaU,hg,hgi]
     |succ m ihm=>rw [←Nat.add_assoc]; simp only [qaU,ihm]
    have:=this k
    rw [show i+1+k=n by omega] at this
    rw [this]
 exact this n 0 (by omega) rfl N hN
end Go.Vi
