/- The abstract interpreter: regions, branches, loops. -/
import Derived.Test.YtfcdfdnlgfebmaaGreatDoorViSeq
import Derived.Deep.LoopGhost
set_option linter.unusedVariables false
set_option linter.unusedSimpArgs false
set_option linter.unnecessarySimpa false
set_option linter.unusedSectionVars false
namespace Go.Vi
open Go.RowKit
section
variable {C:Ctx} {E:Env} {σ τ:St} {tm:Array Value} {a:Act} {w w':World} {own:Nat→List Nat} {o:Oper} {p:qhl} [Tabbed E C]
theorem qag.retag (h:qag C σ tm w own) (hl:τ.length=σ.length) (B:Nat→Prop) (hsame:∀s,¬B s→qt τ s=qt σ s)
  (hB:∀s,B s→(qt τ s).2.mentions=[]∧∀v,qaF (sit C σ tm w own) (qt σ s).2 v (own s)→qaF (sit C σ tm w own) (qt τ s).2 v (own s))
  (hv:∀s m,¬B s→m∈(qt σ s).2.mentions→B m.1→m.2<(qt τ m.1).1):qag C τ tm w own:=by
 refine ⟨by rw [hl]; exact h.size,h.kept,h.mine,h.nodup,h.apart,fun s hs=>h.outside s (by omega),fun s hs=> ?_,fun s m hm=> ?_⟩
 ·have hr:=h.rep s (by omega)
  by_cases hb:B s
  ·obtain ⟨k1,k2⟩:=hB s hb
   exact qaF.keep (X:=sit C σ tm w own) (X':=sit C τ tm w own) ⟨rfl,rfl⟩ (fun b hb hlt=>⟨hb,hlt,rfl⟩) (fun _ _ _=>rfl) (fun m hm=>by rw [k1] at hm; cases hm) (k2 _ hr)
  ·rw [hsame s hb]
   refine qaF.keep (X:=sit C σ tm w own) (X':=sit C τ tm w own) ⟨rfl,rfl⟩ (fun b hb hlt=>⟨hb,hlt,rfl⟩) (fun _ _ _=>rfl) (fun m hm hv'=> ?_) hr
   have hv':(qt τ m.1).1=m.2:=hv'
   by_cases hbm:B m.1
   ·have:=hv s m hb hm hbm
    omega
   ·rw [hsame m.1 hbm] at hv'
    exact ⟨hv',rfl,fun b hb _=>⟨hb,rfl⟩⟩
 ·by_cases hb:B s
  ·rw [(hB s hb).1] at hm; cases hm
  ·rw [hsame s hb] at hm
   by_cases hbm:B m.1
   ·exact Nat.le_of_lt (hv s m hb hm hbm)
   ·rw [hsame m.1 hbm]
    exact h.wf s m hm
theorem qge {F:Nat→Prop} (b:Bool): {x y r:BC} → {cs:List Value} → {bs:List Nat} →qgm.joinB b x y=some r→qbg w F (bif b then x else y) cs bs→qbg w F r cs bs
 | .val t x,.val u y,r,cs,bs,hj,h=>by
  simp only [qgm.joinB] at hj
  split at hj
  ·rename_i z hz
   injection hj with hj
   subst hj
   obtain ⟨e1,e2⟩:=Ty.as_some hz
   subst e1
   have e2:y=z:=e2
   subst e2
   cases b <;> exact h
  ·cases hj
 | .own et e xs,.own et' e' ys,r,cs,bs,hj,h=>by
  simp only [qgm.joinB] at hj
  split at hj
  ·rename_i het
   subst het
   split at hj
   ·rename_i z hz
    injection hj with hj
    subst hj
    obtain ⟨e1,e2⟩:=Ty.as_some hz
    injection e1 with e1
    subst e1
    have e2:ys=z:=e2
    subst e2
    cases b <;> exact h
   ·cases hj
  ·cases hj
 | .pair c d,.pair c' d',r,cs,bs,hj,h=>by
  simp only [qgm.joinB] at hj
  split at hj
  ·rename_i r1 r2 h1 h2
   split at hj
   ·injection hj with hj
    subst hj
    cases b
    ·obtain ⟨c1,c2,b1,b2,k1,k2,k3,k4⟩:=h
     exact ⟨c1,c2,b1,b2,k1,k2,qge false h1 k3,qge false h2 k4⟩
    ·obtain ⟨c1,c2,b1,b2,k1,k2,k3,k4⟩:=h
     exact ⟨c1,c2,b1,b2,k1,k2,qge true h1 k3,qge true h2 k4⟩
   ·cases hj
  ·cases hj
 | .hole n,.hole m,r,cs,bs,hj,h=>by
  simp only [qgm.joinB] at hj
  split at hj
  ·rename_i hnm
   injection hj with hj
   subst hj; subst hnm
   cases b <;> exact h
  ·cases hj
 | .val _ _,.own _ _ _,_,_,_,hj,_=>by cases hj
 | .val _ _,.pair _ _,_,_,_,hj,_=>by cases hj
 | .val _ _,.hole _,_,_,_,hj,_=>by cases hj
 | .own _ _ _,.val _ _,_,_,_,hj,_=>by cases hj
 | .own _ _ _,.pair _ _,_,_,_,hj,_=>by cases hj
 | .own _ _ _,.hole _,_,_,_,hj,_=>by cases hj
 | .pair _ _,.val _ _,_,_,_,hj,_=>by cases hj
 | .pair _ _,.own _ _ _,_,_,_,hj,_=>by cases hj
 | .pair _ _,.hole _,_,_,_,hj,_=>by cases hj
 | .hole _,.val _ _,_,_,_,hj,_=>by cases hj
 | .hole _,.own _ _ _,_,_,_,hj,_=>by cases hj
 | .hole _,.pair _ _,_,_,_,hj,_=>by cases hj
theorem qmU {X:Sit} (b:Bool) {x y:AV} {v:Value} {bs:List Nat} (h:qaF X (bif b then x else y) v bs):qaF X (qgm b x y) v bs∧(qgm b x y).mentions=[]:=by
 unfold qgm
 split
 ·rename_i t x u y
  split
  ·rename_i z hz
   obtain ⟨e1,e2⟩:=Ty.as_some hz
   subst e1
   have e2:y=z:=e2
   subst e2
   refine ⟨?_,rfl⟩
   cases b <;> exact h
  ·exact ⟨trivial,rfl⟩
 ·rename_i et e xs et' e' ys
  split
  ·rename_i het
   subst het
   split
   ·rename_i z hz
    obtain ⟨e1,e2⟩:=Ty.as_some hz
    injection e1 with e1
    subst e1
    have e2:ys=z:=e2
    subst e2
    refine ⟨?_,rfl⟩
    cases b <;> exact h
   ·exact ⟨trivial,rfl⟩
  ·exact ⟨trivial,rfl⟩
 ·rename_i c d
  split
  ·rename_i r hr
   refine ⟨?_,rfl⟩
   cases b
   ·obtain ⟨b0,cs,bs',te,k1,k2,k3,k4⟩:=h
    exact ⟨b0,cs,bs',te,k1,k2,qge false hr k3,k4⟩
   ·obtain ⟨b0,cs,bs',te,k1,k2,k3,k4⟩:=h
    exact ⟨b0,cs,bs',te,k1,k2,qge true hr k3,k4⟩
  ·exact ⟨trivial,rfl⟩
 ·rename_i k t xs k' t' ys
  split
  ·rename_i het
   obtain ⟨e1,e2⟩:=het
   subst e1
   subst e2
   refine ⟨?_,rfl⟩
   cases b <;> exact h
  ·exact ⟨trivial,rfl⟩
 ·rename_i et e et' e' ys
  split
  ·rename_i het
   subst het
   split
   ·rename_i z hz
    obtain ⟨e1,e2⟩:=Ty.as_some hz
    injection e1 with e1
    subst e1
    have e2:ys=z:=e2
    subst e2
    refine ⟨?_,rfl⟩
    cases b
    ·exact h
    ·obtain ⟨rfl,rfl⟩:=h
     exact q7.nil_ _ _ _ _
   ·exact ⟨trivial,rfl⟩
  ·exact ⟨trivial,rfl⟩
 ·rename_i et e xs et' e'
  split
  ·rename_i het
   obtain ⟨rfl,rfl⟩:=het
   refine ⟨?_,rfl⟩
   cases b
   ·obtain ⟨rfl,rfl⟩:=h
    exact q7.nil_ _ _ _ _
   ·exact h
  ·exact ⟨trivial,rfl⟩
 ·rename_i et e et' e'
  split
  ·rename_i het
   obtain ⟨rfl,rfl⟩:=het
   refine ⟨?_,rfl⟩
   cases b <;> exact h
  ·exact ⟨trivial,rfl⟩
 ·exact ⟨trivial,rfl⟩
theorem BC.toVal_rep {F:Nat→Prop} :(t:Ty)→ {c:BC} → {x:t.den} → {cs:List Value} → {bs:List Nat} →c.toVal t=some x→qbg w F c cs bs→qbg w F (.val t x) cs bs
 |t,.val u y,x,cs,bs,hs,h=>by
  have hs:Ty.as (t:=u) t y=some x:=by cases t <;> exact hs
  exact ⟨h.1,h.2.as hs⟩
 | .pair a b,.pair c d,x,cs,bs,hs,h=>by
  simp only [BC.toVal] at hs
  split at hs
  ·rename_i y z h1 h2
   injection hs with hs
   subst hs
   obtain ⟨c1,c2,b1,b2,k1,k2,k3,k4⟩:=h
   have r1:=BC.toVal_rep a h1 k3
   have r2:=BC.toVal_rep b h2 k4
   exact ⟨by rw [k2,r1.1,r2.1]; rfl,c1,c2,k1,r1.2,r2.2⟩
  ·cases hs
 |t,.own _ _ _,x,cs,bs,hs,h=>by cases t <;> cases hs
 |t,.hole _,x,cs,bs,hs,h=>by cases t <;> cases hs
 | .int _,.pair _ _,x,cs,bs,hs,h=>by cases hs
 | .bool,.pair _ _,x,cs,bs,hs,h=>by cases hs
 | .str,.pair _ _,x,cs,bs,hs,h=>by cases hs
 | .unit,.pair _ _,x,cs,bs,hs,h=>by cases hs
 | .slice _,.pair _ _,x,cs,bs,hs,h=>by cases hs
 | .arr _ _,.pair _ _,x,cs,bs,hs,h=>by cases hs
theorem BC.toShape_rep {F:Nat→Prop} :(s:qdX)→ {c:BC} → {x:s.den} → {cs:List Value} → {bs:List Nat} →c.toShape s=some x→qbg w F c cs bs→qbg w F (s.un x) cs bs
 | .val t,c,x,cs,bs,hs,h=>by
  exact BC.toVal_rep t hs h
 | .own et e,.own et' e' xs,x,cs,bs,hs,h=>by
  simp only [BC.toShape] at hs
  split at hs
  ·rename_i het
   subst het
   obtain ⟨e1,e2⟩:=Ty.as_some hs
   injection e1 with e1
   subst e1
   have e2:xs=x:=e2
   subst e2
   exact h
  ·cases hs
 | .pair a b,.pair c d,x,cs,bs,hs,h=>by
  simp only [BC.toShape] at hs
  split at hs
  ·rename_i y z h1 h2
   injection hs with hs
   subst hs
   obtain ⟨c1,c2,b1,b2,k1,k2,k3,k4⟩:=h
   exact ⟨c1,c2,b1,b2,k1,k2,BC.toShape_rep a h1 k3,BC.toShape_rep b h2 k4⟩
  ·cases hs
 | .hole n,.hole m,x,cs,bs,hs,h=>by
  simp only [BC.toShape] at hs
  split at hs
  ·rename_i hnm
   subst hnm
   exact h
  ·cases hs
 | .own _ _,.val _ _,_,_,_,hs,_=>by cases hs
 | .own _ _,.pair _ _,_,_,_,hs,_=>by cases hs
 | .own _ _,.hole _,_,_,_,hs,_=>by cases hs
 | .pair _ _,.val _ _,_,_,_,hs,_=>by cases hs
 | .pair _ _,.own _ _ _,_,_,_,hs,_=>by cases hs
 | .pair _ _,.hole _,_,_,_,hs,_=>by cases hs
 | .hole _,.val _ _,_,_,_,hs,_=>by cases hs
 | .hole _,.own _ _ _,_,_,_,hs,_=>by cases hs
 | .hole _,.pair _ _,_,_,_,hs,_=>by cases hs
theorem AV.toShape_rep {X:Sit} (s:qfi) {av:AV} {x:s.den} {v:Value} {bs:List Nat} (hs:av.toShape s=some x) (h:qaF X av v bs):qaF X (s.un x) v bs∧(s.un x).mentions=[]:=by
 cases s with
 |val t=>
  cases av with
  |val u y=>exact ⟨⟨h.1,h.2.as hs⟩,rfl⟩
  |_=>cases hs
 |own et e=>
  cases av with
  |own et' e' xs=>
   simp only [AV.toShape] at hs
   split at hs
   ·rename_i het
    subst het
    obtain ⟨e1,e2⟩:=Ty.as_some hs
    injection e1 with e1
    subst e1
    have e2:xs=x:=e2
    subst e2
    exact ⟨h,rfl⟩
   ·cases hs
  |_=>cases hs
 |box b=>
  cases av with
  |box c=>
   obtain ⟨b0,cs,bs',te,k1,k2,k3,k4⟩:=h
   exact ⟨⟨b0,cs,bs',te,k1,k2,BC.toShape_rep b hs k3,k4⟩,rfl⟩
  |_=>cases hs
 |mp k t=>
  cases av with
  |mp k' t' xs=>
   simp only [AV.toShape] at hs
   split at hs
   ·rename_i het
    obtain ⟨e1,e2⟩:=het
    subst e1
    subst e2
    injection hs with hs
    subst hs
    exact ⟨h,rfl⟩
   ·cases hs
  |_=>cases hs
theorem qh1 (σ:St) (s:Nat) (e:Ent) (x:Nat):qt (σ.set s e) x=if x=s∧s<σ.length then e else qt σ x:=by
 unfold qt
 simp only [List.getD_eq_getElem?_getD,List.getElem?_set]
 by_cases hx:s=x
 ·subst hx
  by_cases hl:s<σ.length
  ·simp [hl]
  ·simp [hl]
 ·simp [hx]
  intro e1
  exact absurd e1.symm hx
theorem qlC:(wr:List Nat)→(σ:St)→(wr.foldl (fun σ s=>σ.set s ((qt σ s).1+1,.undef)) σ).length=σ.length∧
  ∀x,(x∈wr∧x<σ.length→(qt σ x).1<(qt (wr.foldl (fun σ s=>σ.set s ((qt σ s).1+1,.undef)) σ) x).1∧(qt (wr.foldl (fun σ s=>σ.set s ((qt σ s).1+1,.undef)) σ) x).2= .undef)∧
   (¬(x∈wr∧x<σ.length)→qt (wr.foldl (fun σ s=>σ.set s ((qt σ s).1+1,.undef)) σ) x=qt σ x)
 |[],σ=>⟨rfl,fun x=>⟨fun h=>(by cases h.1),fun _=>rfl⟩⟩
 |s::wr,σ=>by
  obtain ⟨h1,h2⟩:=qlC wr (σ.set s ((qt σ s).1+1,.undef))
  rw [List.foldl_cons]
  refine ⟨by rw [h1]; simp,fun x=> ?_⟩
  obtain ⟨k1,k2⟩:=h2 x
  rw [List.length_set] at k1 k2
  by_cases hx:x∈wr∧x<σ.length
  ·refine ⟨fun _=> ?_,fun hn=>absurd ⟨List.mem_cons_of_mem _ hx.1,hx.2⟩ hn⟩
   obtain ⟨g1,g2⟩:=k1 hx
   refine ⟨Nat.lt_of_le_of_lt ?_ g1,g2⟩
   rw [qh1]
   split
   ·rename_i h; rw [h.1]; exact Nat.le_succ _
   ·exact Nat.le_refl _
  ·rw [k2 hx]
   rw [qh1]
   by_cases hs:x=s∧s<σ.length
   ·rw [if_pos hs]
    refine ⟨fun _=>⟨by rw [hs.1]; exact Nat.lt_succ_self _,rfl⟩,fun hn=>absurd ⟨by rw [hs.1]; exact List.mem_cons_self,by rw [hs.1]; exact hs.2⟩ hn⟩
   ·rw [if_neg hs]
    refine ⟨fun hn=> ?_,fun _=>rfl⟩
    rcases List.mem_cons.1 hn.1 with rfl|hm
    ·exact absurd ⟨rfl,hn.2⟩ hs
    ·exact absurd ⟨hm,hn.2⟩ hx
theorem qlM:(l:List (Nat×qfi))→(x:liveDen l)→(σ:St)→(l.map (·.1)).Nodup→(qfZ l x σ).length=σ.length∧(∀s,s∉l.map (·.1)→qt (qfZ l x σ) s=qt σ s)∧
  ∀(τ:St),qpu l τ=some x→∀s,s∈l.map (·.1)→s<σ.length→(qt (qfZ l x σ) s).1=(qt σ s).1∧∀X v bs,qaF X (qt τ s).2 v bs→qaF X (qt (qfZ l x σ) s).2 v bs∧(qt (qfZ l x σ) s).2.mentions=[]
 |[],_,σ,_=>⟨rfl,fun _ _=>rfl,fun _ _ s hs=>by cases hs⟩
 |p::r,x,σ,hn=>by
  have hn:=List.nodup_cons.1 hn
  obtain ⟨h1,h2,h3⟩:=qlM r x.2 (σ.set p.1 ((qt σ p.1).1,p.2.un x.1)) hn.2
  refine ⟨by simp only [qfZ]; rw [h1]; simp,fun s hs=> ?_,fun τ hp s hs hl=> ?_⟩
  ·have hs':s≠p.1∧s∉r.map (·.1):=by simpa using hs
   simp only [qfZ]
   rw [h2 s hs'.2,qh1,if_neg (fun h=>hs'.1 h.1)]
  ·simp only [qpu] at hp
   split at hp
   case h_2=>cases hp
   rename_i y z e1 e2
   injection hp with hp
   subst hp
   simp only [qfZ]
   by_cases hsp:s=p.1
   ·subst hsp
    rw [h2 _ hn.1,qh1,if_pos ⟨rfl,hl⟩]
    exact ⟨rfl,fun X v bs h=>AV.toShape_rep p.2 e1 h⟩
   ·have hsr:s∈r.map (·.1):=by
     rcases List.mem_cons.1 hs with e|e
     ·exact absurd e hsp
     ·exact e
    obtain ⟨g1,g2⟩:=h3 τ e2 s hsr (by rw [List.length_set]; exact hl)
    rw [qh1,if_neg (fun h=>hsp h.1)] at g1
    exact ⟨g1,g2⟩
def Fr (wr:List Nat) (σ σ':St):Prop:=σ'.length=σ.length∧∀s,s∉wr→qt σ' s=qt σ s
theorem qoL {A:qnK} (hlive:∀q∈A.live,q.1∈A.wr) (hn:(A.live.map (·.1)).Nodup) (x:liveDen A.live):Fr A.wr σ (qf4 A σ x):=by
 obtain ⟨h1,h2⟩:=qlC A.wr σ
 obtain ⟨k1,k2,_⟩:=qlM A.live x (A.wr.foldl (fun σ s=>σ.set s ((qt σ s).1+1,.undef)) σ) hn
 refine ⟨k1.trans h1,fun s hs=> ?_⟩
 rw [qf4,k2 s fun hm=>by
  obtain ⟨q,hq,e⟩:=List.mem_map.1 hm
  exact hs (e ▸ hlive q hq)]
 exact (h2 s).2 fun h=>hs h.1
theorem qag.head (h:qag C τ tm w own) {A:qnK} (hlive:∀q∈A.live,q.1∈A.wr) (hn:(A.live.map (·.1)).Nodup) (hwf:∀s,∀m∈(qt σ s).2.mentions,m.2≤(qt σ m.1).1) (hfr:Fr A.wr σ τ) {x:liveDen A.live} (hx:qpu A.live τ=some x):
  qag C (qf4 A σ x) tm w own:=by
 obtain ⟨h1,h2⟩:=qlC A.wr σ
 obtain ⟨k1,k2,k3⟩:=qlM A.live x (A.wr.foldl (fun σ s=>σ.set s ((qt σ s).1+1,.undef)) σ) hn
 have hver:∀s,s∈A.wr→s<σ.length→(qt σ s).1<(qt (qf4 A σ x) s).1:=by
  intro s hs hl
  by_cases hm:s∈A.live.map (·.1)
  ·rw [qf4,(k3 τ hx s hm (by rw [h1]; exact hl)).1]
   exact ((h2 s).1 ⟨hs,hl⟩).1
  ·rw [qf4,k2 s hm]
   exact ((h2 s).1 ⟨hs,hl⟩).1
 refine h.retag ((k1.trans h1).trans hfr.1.symm) (fun s=>s∈A.wr∧s<σ.length) (fun s hs=> ?_) (fun s hs=> ?_) (fun s m hs hm hb=> ?_)
 ·by_cases hw:s∈A.wr
  ·have hl:¬s<σ.length:=fun hl=>hs ⟨hw,hl⟩
   have e1:qt (qf4 A σ x) s=(0,.undef):=by simp [qt,List.getD,List.getElem?_eq_none (show (qf4 A σ x).length≤s by rw [qf4,k1,h1]; omega)]
   have e2:qt τ s=(0,.undef):=by simp [qt,List.getD,List.getElem?_eq_none (show τ.length≤s by rw [hfr.1]; omega)]
   rw [e1,e2]
  ·rw [(qoL hlive hn x).2 s hw,hfr.2 s hw]
 ·by_cases hm:s∈A.live.map (·.1)
  ·obtain ⟨_,g⟩:=k3 τ hx s hm (by rw [h1]; exact hs.2)
   refine ⟨?_,fun v hv=>(g _ v _ hv).1⟩
   have hat:=h.at_ s
   exact (g _ _ _ hat).2
  ·rw [qf4,k2 s hm,((h2 s).1 hs).2]
   exact ⟨rfl,fun _ _=>trivial⟩
 ·have e:qt τ s=qt σ s:=by
   by_cases hw:s∈A.wr
   ·have hl:¬s<σ.length:=fun hl=>hs ⟨hw,hl⟩
    have e1:qt σ s=(0,.undef):=by simp [qt,List.getD,List.getElem?_eq_none (show σ.length≤s by omega)]
    have e2:qt τ s=(0,.undef):=by simp [qt,List.getD,List.getElem?_eq_none (show τ.length≤s by rw [hfr.1]; omega)]
    rw [e1,e2]
   ·exact hfr.2 s hw
  rw [e] at hm
  exact Nat.lt_of_le_of_lt (hwf s m hm) (hver m.1 hb.1 hb.2)
end
end Go.Vi
