/- The abstract interpreter: whole code. -/
import Derived.Test.YtfcdfdnlgfebmaaGreatDoorViRunC
set_option linter.unusedVariables false
set_option linter.unusedSimpArgs false
set_option linter.unnecessarySimpa false
set_option linter.unusedSectionVars false
namespace Go.Vi
open Go.RowKit
section
variable {C:Ctx} {E:Env} {σ τ:St} {tm:Array Value} {a:Act} {w w':World} {own:Nat→List Nat} {o:Oper} {p:qhl} [Tabbed E C]
theorem qmH {wr:List Nat} {ops:Array Oper} :(l:List Oper)→ {σ σ':St} → {c c':List Bool} → {fs fs':List qeY} →qdv E wr ops l σ c fs=some (σ',c',fs')→(∀f∈fs,∀s∈f.wr,s∈wr)→∀f∈fs',∀s∈f.wr,s∈wr
 |[],σ,σ',c,c',fs,fs',he,h=>by
  simp only [qdv,Option.some.injEq,Prod.mk.injEq] at he
  obtain ⟨rfl,rfl,rfl⟩:=he
  exact h
 |o::r,σ,σ',c,c',fs,fs',he,h=>by
  simp only [qdv] at he
  split at he
  ·cases he
  rename_i g hg
  split at he
  ·cases he
  rename_i f hf
  split at he
  case isFalse=>cases he
  rename_i hu
  refine qmH r he fun f' hf' s hs=> ?_
  rcases List.mem_cons.1 hf' with rfl|hf'
  ·obtain ⟨u,hm,rfl⟩:=List.mem_map.1 hs
   have:=List.all_eq_true.1 hu u hm
   simp at this
   exact this.1
  ·exact h f' hf' s hs
theorem qjx {wr:List Nat} {ops:Array Oper} {d:Bool} {σ':St} {c:List Bool} {ds:List Nat} (he:qdp E wr ops d σ=some (σ',c,ds)):∀s∈ds,s∈wr:=by
 unfold qdp at he
 split at he
 case h_2=>cases he
 rename_i σ1 c1 fs h1
 split at he
 case isFalse=>cases he
 injection he with he
 simp only [Prod.mk.injEq] at he
 obtain ⟨rfl,rfl,rfl⟩:=he
 intro s hs
 obtain ⟨f,hf,hs⟩:=List.mem_flatMap.1 hs
 exact qmH ops.toList h1 (fun f hf=>by cases hf) f hf s hs
theorem qs2 (hpc:qtJ C a.tmps) (h:qag C σ a.tmps w own) {c:Operand} {x:Bool} {ow:List Nat} (he:Q.run (qt σ) ((opd E [] 0 c).bind qmg)=some ⟨.bool,x,ow⟩):a.eval c= .bool x:=by
 obtain ⟨o1,h1,h2⟩:=Q.bind_some he
 exact qaq.bool (qde h (qaE h ⟨hpc,fun q hq=>by cases hq⟩ h1) h2)
theorem qd7:(l:List Nat)→ {σ:St} → {own:Nat→List Nat} →qag C σ tm w own→∃own',qag C (qic l σ) tm w own'
 |[],_,own,h=>⟨own,h⟩
 |s::l,σ,own,h=>by
  obtain ⟨own1,h1,_⟩:=h.freeze s
  exact qd7 l h1
theorem qd1 {wr:List Nat} :(l:List Nat)→ {σ:St} →(∀s∈l,s∈wr)→Fr wr σ (qic l σ)
 |[],σ,_=>Fr.refl _ _
 |s::l,σ,h=>by
  have h1:Fr wr σ (qr σ [⟨s,false,(qt σ s).2.freeze⟩]):=qf8 _ fun u hu=>by
   rw [List.mem_singleton.1 hu]
   exact h s List.mem_cons_self
  exact h1.trans (qd1 l fun s' hs=>h s' (List.mem_cons_of_mem _ hs))
theorem qrz {σ:St} {own:Nat→List Nat} (s:Nat) (h:qag C σ tm w own):∃own',qag C (qlK σ s) tm w own':=by
 unfold qlK
 split
 ·rename_i t x hs
  obtain ⟨own',h1,_⟩:=h.expose (u:=t) (x:=x) (f:=false) hs rfl (by simp [BC.get,Ty.sub_self])
  exact ⟨own',h1⟩
 ·exact ⟨own,h⟩
theorem qlL:(l:List Nat)→ {σ:St} → {own:Nat→List Nat} →qag C σ tm w own→∃own',qag C (qnc l σ) tm w own'
 |[],_,own,h=>⟨own,h⟩
 |s::l,σ,own,h=>by
  obtain ⟨own1,h1⟩:=qrz s h
  exact qlL l h1
theorem qiL {wr:List Nat} :(l:List Nat)→ {σ:St} →(∀s∈l,s∈wr)→Fr wr σ (qnc l σ)
 |[],σ,_=>Fr.refl _ _
 |s::l,σ,h=>by
  have h1:Fr wr σ (qlK σ s):=by
   unfold qlK
   split
   ·rename_i t x _
    exact qf8 [⟨s,true,.view t x 0⟩] fun u hu=>by
     rw [List.mem_singleton.1 hu]
     exact h s List.mem_cons_self
   ·exact Fr.refl _ _
  exact h1.trans (qiL l fun s' hs=>h s' (List.mem_cons_of_mem _ hs))
theorem qjJ {σ1 σ2:St} :(l:List Nat)→∀s∈qmt σ1 σ2 l,s∈l
 |[],s,h=>h
 |x::l,s,h=>by
  simp only [qmt] at h
  split at h
  ·rcases List.mem_cons.1 h with rfl|h
   ·exact List.mem_cons_self
   ·exact List.mem_cons_of_mem _ (qjJ l s h)
  ·exact List.mem_cons_of_mem _ (qjJ l s h)
theorem qhV {σ:St} :(l:List (Nat×qfi))→∀s∈qgT σ l,∃q∈l,q.1=s
 |[],s,h=>by cases h
 |x::l,s,h=>by
  simp only [qgT] at h
  split at h
  ·rcases List.mem_cons.1 h with rfl|h
   ·exact ⟨x,List.mem_cons_self,rfl⟩
   ·obtain ⟨q,hq,e⟩:=qhV l s h
    exact ⟨q,List.mem_cons_of_mem _ hq,e⟩
  ·obtain ⟨q,hq,e⟩:=qhV l s h
   exact ⟨q,List.mem_cons_of_mem _ hq,e⟩
theorem qsg {wr:List Nat} {l:List (Nat×qfi)} {σ:St} (h:∀q∈l,q.1∈wr):Fr wr σ (fixL l σ):=qd1 _ fun s hs=>by
 obtain ⟨q,hq,rfl⟩:=qhV l s hs
 exact h q hq
theorem qsO {frz:List (Nat×List Nat)} {wr:List Nat} {id:Nat} {ops:Array Oper} {d:Bool} {σ':St} {c:List Bool} {ds:List Nat} (he:regE E frz wr id ops d σ=some (σ',c,ds)):Fr wr σ σ'∧Fr ds σ σ'∧∀s∈ds,s∈wr:=by
 unfold regE at he
 split at he
 ·obtain ⟨h1,_,h3⟩:=qjB he
  exact ⟨h1,h3,qjx he⟩
 ·rename_i fz _
  split at he
  case isFalse=>cases he
  rename_i hall
  split at he
  case h_2=>cases he
  rename_i σ1 c1 d1 h1
  injection he with he
  simp only [Prod.mk.injEq] at he
  obtain ⟨rfl,rfl,rfl⟩:=he
  obtain ⟨g1,_,g3⟩:=qjB h1
  simp only [Bool.and_eq_true] at hall
  have hsub:∀s∈qfD frz (some id),s∈wr:=fun s hs=>by
   have:=List.all_eq_true.1 hall.1 s hs
   simpa using this
  have hex:∀s∈qfD frz (some (id+2000000000)),s∈qfD frz (some id):=fun s hs=>by
   have:=List.all_eq_true.1 hall.2 s hs
   simpa using this
  refine ⟨((qd1 _ hsub).trans (qiL _ fun s hs=>hsub s (hex s hs))).trans g1,((qd1 _ fun s hs=>List.mem_append_left _ hs).trans (qiL _ fun s hs=>List.mem_append_left _ (hex s hs))).trans (g3.mono fun s hs=>List.mem_append_right _ hs),fun s hs=> ?_⟩
  rcases List.mem_append.1 hs with hs|hs
  ·exact hsub s hs
  ·exact qjx h1 s hs
theorem qsx (hE:qbG E C.P) {pin:List Nat} (hF:qoa E C pin) {frz:List (Nat×List Nat)} {wr:List Nat} {id:Nat} {ops:Array Oper} {d:Bool} {Q:Exit→Act→World→Prop} {σ':St} {c:List Bool} {ds:List Nat} (hp:qmK pin ops.toList=true) (he:regE E frz wr id ops d σ=some (σ',c,ds)) (hc:qd3 c) (hpc:qtJ C a.tmps) (h:qag C σ a.tmps w own)
  (hQ:∀a' w' own',qdK pin a a'→qag C σ' a'.tmps w' own'→Q .normal a' w'):(Code.region id ops d).wp C.P Q a w:=by
 unfold regE at he
 split at he
 ·exact qjj hE hF hp he hc hpc h hQ
 ·split at he
  case isFalse=>cases he
  split at he
  case h_2=>cases he
  rename_i σ1 c1 d1 h1
  injection he with he
  simp only [Prod.mk.injEq] at he
  obtain ⟨rfl,rfl,rfl⟩:=he
  obtain ⟨own1,hst⟩:=qd7 (qfD frz (some id)) h
  obtain ⟨own2,hst2⟩:=qlL (qfD frz (some (id+2000000000))) hst
  exact qjj hE hF hp h1 hc hpc hst2 hQ
theorem qiK {frz:List (Nat×List Nat)} {wr:List Nat} :(c:Code)→ {σ σ':St} → {ch:List Bool} → {ds:List Nat} →qri E frz wr c σ=some (σ',ch,ds)→Fr wr σ σ'∧Fr ds σ σ'∧∀s∈ds,s∈wr
 | .skip,σ,σ',ch,ds,he=>by
  simp only [qri,Option.some.injEq,Prod.mk.injEq] at he
  obtain ⟨rfl,rfl,rfl⟩:=he
  exact ⟨Fr.refl _ _,Fr.refl _ _,fun s hs=>by cases hs⟩
 | .region _ ops d,σ,σ',ch,ds,he=>by
  exact qsO he
 | .seq x y,σ,σ',ch,ds,he=>by
  simp only [qri] at he
  split at he
  case h_2=>cases he
  rename_i σ1 c1 d1 h1
  split at he
  case h_2=>cases he
  rename_i σ2 c2 d2 h2
  injection he with he
  simp only [Prod.mk.injEq] at he
  obtain ⟨rfl,rfl,rfl⟩:=he
  obtain ⟨g1,g2,g3⟩:=qiK x h1
  obtain ⟨k1,k2,k3⟩:=qiK y h2
  refine ⟨g1.trans k1,(g2.mono fun s hs=>List.mem_append_left _ hs).trans (k2.mono fun s hs=>List.mem_append_right _ hs),fun s hs=> ?_⟩
  rcases List.mem_append.1 hs with hs|hs
  ·exact g3 s hs
  ·exact k3 s hs
 | .cond c x y,σ,σ',ch,ds,he=>by
  simp only [qri] at he
  split at he
  case h_2=>cases he
  split at he
  case h_2=>cases he
  rename_i σ1 c1 d1 σ2 c2 d2 h1 h2
  injection he with he
  simp only [Prod.mk.injEq] at he
  obtain ⟨rfl,rfl,rfl⟩:=he
  obtain ⟨g1,g2,g3⟩:=qiK x h1
  obtain ⟨k1,k2,k3⟩:=qiK y h2
  have hsub:∀s∈d1++d2,s∈wr:=fun s hs=>by
   rcases List.mem_append.1 hs with hs|hs
   ·exact g3 s hs
   ·exact k3 s hs
  exact ⟨qo0 hsub,qo0 fun s hs=>hs,hsub⟩
 | .label _,_,_,_,_,he=>by cases he
 | .block _ _,_,_,_,_,he=>by cases he
 | .loop _,_,_,_,_,he=>by cases he
 | .exit _,_,_,_,_,he=>by cases he
 | .goto _,_,_,_,_,he=>by cases he
 | .ret,_,_,_,_,he=>by cases he
theorem qpV {b:Bool} {c d:List Bool} (h:qd3 (qp4 b c d)):qd3 (bif b then c else d):=by
 unfold qp4 at h
 split at h
 ·cases b <;> exact fun x hx=>by cases hx
 ·have:=h _ (List.mem_singleton.2 rfl)
  cases b
  ·exact qla this
  ·exact qla this
theorem qlE (hE:qbG E C.P) {frz:List (Nat×List Nat)} {pin wr:List Nat} (hF:qoa E C pin):(c:Code)→qjS pin c=true→ {σ σ':St} → {ch:List Bool} → {ds:List Nat} → {Q1:Exit→Act→World→Prop} → {a:Act} → {w:World} → {own:Nat→List Nat} →qri E frz wr c σ=some (σ',ch,ds)→qd3 ch→qtJ C a.tmps→qag C σ a.tmps w own→
  (∀a' w' own',qdK pin a a'→qag C σ' a'.tmps w' own'→Q1 .normal a' w')→c.wp C.P Q1 a w
 | .skip,hp,σ,σ',ch,ds,Q1,a,w,own,he,_,hpc,h,hQ=>by
  simp only [qri,Option.some.injEq,Prod.mk.injEq] at he
  obtain ⟨rfl,rfl,rfl⟩:=he
  exact wp_skip (hQ a w own (qdK.refl _ _) h)
 | .region _ ops d,hp,σ,σ',ch,ds,Q1,a,w,own,he,hc,hpc,h,hQ=>qsx hE hF hp he hc hpc h hQ
 | .seq x y,hp,σ,σ',ch,ds,Q1,a,w,own,he,hc,hpc,h,hQ=>by
  simp only [qri] at he
  split at he
  case h_2=>cases he
  rename_i σ1 c1 d1 h1
  split at he
  case h_2=>cases he
  rename_i σ2 c2 d2 h2
  injection he with he
  simp only [Prod.mk.injEq] at he
  obtain ⟨rfl,rfl,rfl⟩:=he
  simp only [qjS,Bool.and_eq_true] at hp
  refine wp_seq (qlE hE hF x hp.1 h1 (fun b hb=>hc b (List.mem_append_left _ hb)) hpc h fun a1 w1 own1 hd1 hst1=> ?_)
  exact qlE hE hF y hp.2 h2 (fun b hb=>hc b (List.mem_append_right _ hb)) (hd1.pinC hF hpc) hst1 fun a2 w2 own2 hd2 hst2=>hQ a2 w2 own2 (hd2.trans hd1) hst2
 | .cond c x y,hp,σ,σ',ch,ds,Q1,a,w,own,he,hc,hpc,h,hQ=>by
  simp only [qri] at he
  split at he
  case h_2=>cases he
  rename_i b ow hb
  split at he
  case h_2=>cases he
  rename_i σ1 c1 d1 σ2 c2 d2 h1 h2
  injection he with he
  simp only [Prod.mk.injEq] at he
  obtain ⟨rfl,rfl,rfl⟩:=he
  have hch:=qpV hc
  simp only [qjS,Bool.and_eq_true] at hp
  have f1:=(qiK x h1).2.1.mono (wr':=d1++d2) fun s hs=>List.mem_append_left _ hs
  have f2:=(qiK y h2).2.1.mono (wr':=d1++d2) fun s hs=>List.mem_append_right _ hs
  refine wp_cond (qs2 hpc h hb) ?_
  have z1:=f1.trans (qd1 (qmt σ1 σ2 (d1++d2)) (qjJ _))
  have z2:=f2.trans (qd1 (qmt σ2 σ1 (d1++d2)) (qjJ _))
  cases b with
  |true=>
   refine qlE hE hF x hp.1 h1 hch hpc h fun a1 w1 own1 hd1 hst1=> ?_
   obtain ⟨own2,hst2⟩:=qd7 (qmt σ1 σ2 (d1++d2)) hst1
   exact hQ a1 w1 own2 hd1 (qag.join (b:=true) hst2 z1 z2)
  |false=>
   refine qlE hE hF y hp.2 h2 hch hpc h fun a1 w1 own1 hd1 hst1=> ?_
   obtain ⟨own2,hst2⟩:=qd7 (qmt σ2 σ1 (d1++d2)) hst1
   exact hQ a1 w1 own2 hd1 (qag.join (b:=false) hst2 z1 z2)
 | .label _,_,_,_,_,_,_,_,_,_,he,_,_,_,_=>by cases he
 | .block _ _,_,_,_,_,_,_,_,_,_,he,_,_,_,_=>by cases he
 | .loop _,_,_,_,_,_,_,_,_,_,he,_,_,_,_=>by cases he
 | .exit _,_,_,_,_,_,_,_,_,_,he,_,_,_,_=>by cases he
 | .goto _,_,_,_,_,_,_,_,_,_,he,_,_,_,_=>by cases he
 | .ret,_,_,_,_,_,_,_,_,_,he,_,_,_,_=>by cases he
theorem qkC {R:Type} {c:List Bool} {r:Option R} {x:R} (h:andThen c r=some x):qd3 c∧r=some x:=by
 unfold andThen at h
 split at h
 ·refine ⟨fun b hb=> ?_,h⟩
  cases hb
 ·cases hc:qu1 c with
  |true=>rw [hc] at h; exact ⟨qla hc,h⟩
  |false=>rw [hc] at h; cases h
structure KOk {R:Type} (C:Ctx) (pin:List Nat) (k:K R) (r:R) (wr:List Nat) (σ:St) (ds:Act) (Q1:Exit→Act→World→Prop):Prop where
 n:∀σ' a' w' own',Fr wr σ σ'→qdK pin ds a'→qag C σ' a'.tmps w' own'→k.n σ'=some r→Q1 .normal a' w'
 e:∀i σ' a' w' own',Fr wr σ σ'→qdK pin ds a'→qag C σ' a'.tmps w' own'→k.e i σ'=some r→Q1 (.exit i) a' w'
 r:∀σ' a' w' own',Fr wr σ σ'→qdK pin ds a'→qag C σ' a'.tmps w' own'→k.r σ'=some r→Q1 .ret a' w'
theorem KOk.fr {R:Type} {pin:List Nat} {k:K R} {r:R} {wr wr':List Nat} {ds ds':Act} {Q1:Exit→Act→World→Prop} (h:KOk C pin k r wr σ ds Q1) (hd:qdK pin ds ds') (hs:∀s∈wr',s∈wr) (hf:Fr wr σ τ):KOk C pin k r wr' τ ds' Q1:=
 ⟨fun σ' a' w' own' f g=>h.n σ' a' w' own' (hf.trans (f.mono hs)) (g.trans hd),fun i σ' a' w' own' f g=>h.e i σ' a' w' own' (hf.trans (f.mono hs)) (g.trans hd),fun σ' a' w' own' f g=>h.r σ' a' w' own' (hf.trans (f.mono hs)) (g.trans hd)⟩
theorem qn4 {σ:St} {s v:Nat} {a:AV} (h:qt σ s=(v,a)) (ha:a≠ .undef):σ.set s (v,a)=σ:=by
 have hl:s<σ.length:=qiP (by rw [h]; exact ha)
 rw [←h]
 simp only [qt,List.getD_eq_getElem?_getD,List.getElem?_eq_getElem hl,Option.getD_some]
 exact List.set_getElem_self hl
theorem qdg {R:Type} :(l:List Nat)→(σ:St)→(k:St→Option R)→qfE l σ k=k σ
 |[],_,_=>rfl
 |s::r,σ,k=>by
  unfold qfE
  split
  ·rename_i v t x h
   rw [qI,qn4 h (fun h=>by cases h)]
   exact qdg r σ k
  ·rename_i v et e xs h
   rw [qI,qn4 h (fun h=>by cases h)]
   exact qdg r σ k
  ·rename_i v t x h
   rw [qI,qn4 h (fun h=>by cases h)]
   exact qdg r σ k
  ·exact qdg r σ k
theorem qvg (hE:qbG E C.P) {N:Nat} {anns:qu2} {R:Type} {pin:List Nat} {r:R} (hF:qoa E C pin) (c:Code):qjS pin c=true→∀ {wr:List Nat} {σ:St} {k:K R} {Q1:Exit→Act→World→Prop} {a:Act} {w:World} {own:Nat→List Nat},
  qph E N anns c wr σ k=some r→qtJ C a.tmps→qag C σ a.tmps w own→KOk C pin k r wr σ a Q1→c.wp C.P Q1 a w:=by
 induction c with
 |skip=>intro hp wr σ k Q1 a w own he hpc h hk; exact wp_skip (hk.n σ a w own (Fr.refl _ _) (qdK.refl _ _) h he)
 |region id ops d=>
  intro hp wr σ k Q1 a w own he hpc h hk
  simp only [qph,qdg] at he
  split at he
  case h_2=>cases he
  rename_i σ1 c1 d1 h1
  obtain ⟨hc,he⟩:=qkC he
  exact qsx hE hF hp h1 hc hpc h fun a1 w1 own1 hd1 hst1=>hk.n _ a1 w1 own1 (qsO h1).1 hd1 hst1 he
 |seq x y ihx ihy=>
  intro hp wr σ k Q1 a w own he hpc h hk
  simp only [qjS,Bool.and_eq_true] at hp
  refine wp_seq (ihx hp.1 he hpc h ⟨fun σ' a' w' own' f hd hst he'=> ?_,fun i σ' a' w' own' f hd hst he'=>hk.e i σ' a' w' own' f hd hst he',fun σ' a' w' own' f hd hst he'=>hk.r σ' a' w' own' f hd hst he'⟩)
  exact ihy hp.2 he' (hd.pinC hF hpc) hst (hk.fr hd (fun s hs=>hs) f)
 |cond c x y ihx ihy=>
  intro hp wr σ k Q1 a w own he hpc h hk
  simp only [qph,qdg] at he
  cases hamb:qvc c σ with
  |some wm=>
   obtain ⟨w0,m⟩:=wm
   simp only [qjS,Bool.and_eq_true] at hp
   obtain ⟨b,hev,hbm⟩:∃b,a.eval c= .bool b∧(b=w0→m=true):=by
    unfold qvc at hamb
    split at hamb
    case h_2=>cases hamb
    rename_i t
    split at hamb
    case h_2=>cases hamb
    rename_i w1 m1 hat
    injection hamb with hamb
    injection hamb with e1 e2
    subst e1; subst e2
    have:=h.at_ t
    rw [hat] at this
    obtain ⟨_,b,h1,h2⟩:=this
    exact ⟨b,h1,h2⟩
   simp only [hamb] at he
   refine wp_cond hev ?_
   cases m with
   |true=>
    simp only [cond_true,qo9] at he
    split at he
    case isFalse=>cases he
    rename_i hag
    cases b with
    |true=>exact ihx hp.1 he hpc h hk
    |false=>exact ihy hp.2 (hag ▸ he) hpc h hk
   |false=>
    simp only [cond_false] at he
    have hne:b≠w0:=fun e=>by cases hbm e
    cases b <;> cases w0 <;> simp only at he <;> first|exact absurd rfl hne|exact ihx hp.1 he hpc h hk|exact ihy hp.2 he hpc h hk
  |none=>
  simp only [hamb] at he
  split at he
  case h_2=>cases he
  rename_i b ow hb
  split at he
  ·split at he
   case h_2=>cases he
   rename_i σ1 c1 d1 h1
   obtain ⟨hc,he⟩:=qkC he
   exact qlE hE hF (.cond c x y) hp h1 hc hpc h fun a1 w1 own1 hd1 hst1=>hk.n _ a1 w1 own1 (qiK _ h1).1 hd1 hst1 he
  ·simp only [qjS,Bool.and_eq_true] at hp
   refine wp_cond (qs2 hpc h hb) ?_
   cases b with
   |true=>exact ihx hp.1 he hpc h hk
   |false=>exact ihy hp.2 he hpc h hk
 |block id x ih=>
  intro hp wr σ k Q1 a w own he hpc h hk
  refine wp_block (ih hp he hpc h ⟨fun σ' a' w' own' f hd hst he'=>hk.n σ' a' w' own' f hd hst he',fun i σ' a' w' own' f hd hst he'=> ?_,fun σ' a' w' own' f hd hst he'=>hk.r σ' a' w' own' f hd hst he'⟩)
  simp only at he'
  by_cases hi:i=id
  ·rw [if_pos hi] at he'
   subst hi
   simpa [Exit.inBlock] using hk.n σ' a' w' own' f hd hst he'
  ·rw [if_neg hi] at he'
   simpa [Exit.inBlock,hi] using hk.e i σ' a' w' own' f hd hst he'
 |exit id=>intro hp wr σ k Q1 a w own he hpc h hk; exact wp_exit (hk.e id σ a w own (Fr.refl _ _) (qdK.refl _ _) h he)
 |ret=>intro hp wr σ k Q1 a w own he hpc h hk; exact wp_ret (hk.r σ a w own (Fr.refl _ _) (qdK.refl _ _) h he)
 |loop x ih=>
  intro hp wr σ k Q1 a w own he hpc h hk
  simp only [qph,qdg] at he
  split at he
  case h_2=>cases he
  rename_i A hA
  split at he
  case isFalse=>cases he
  rename_i hcond
  simp only [Bool.and_eq_true] at hcond
  obtain ⟨⟨c1,c2⟩,c3⟩:=hcond
  split at he
  case h_2=>cases he
  rename_i p0 hp0
  have hsub:∀s∈A.wr,s∈wr:=fun s hs=>by
   have:=List.all_eq_true.1 c1 s hs
   simpa using this
  have hlive:∀q∈A.live,q.1∈A.wr:=fun q hq=>by
   have:=List.all_eq_true.1 c2 q hq
   simpa using this
  have hn:=qd9 c3
  obtain ⟨own0,h0⟩:=qd7 (qgT σ A.live) h
  refine wp_loop_ghost (fun n a' w'=>∃q own',qag C (qf4 A σ q) a'.tmps w' own'∧qdK pin a a'∧qZ n (fun ih p=>qph E N anns x A.wr (qf4 A σ p) { k with n:=fun σ'=>match qpu A.live (fixL A.live σ') with
     |some q=>ih q
     |none=>none }) q=some r) N ⟨p0,own0,qag.head (τ:=fixL A.live σ) h0 hlive hn h.wf (qsg hlive) hp0,qdK.refl _ _,he⟩ ?_
  rintro n a1 w1 ⟨q,own1,hst,hd1,hit⟩
  cases n with
  |zero=>cases hit
  |succ n=>
   have hfr:=qoL (σ:=σ) hlive hn q
   refine ih hp hit (hd1.pinC hF hpc) hst ⟨fun σ' a' w' own' f hd hst' he'=> ?_,fun i σ' a' w' own' f hd hst' he'=> ?_,fun σ' a' w' own' f hd hst' he'=> ?_⟩
   ·simp only at he'
    split at he'
    case h_2=>cases he'
    rename_i q' hq'
    obtain ⟨own2,hst2⟩:=qd7 (qgT σ' A.live) hst'
    exact ⟨n,Nat.lt_succ_self n,q',own2,qag.head (τ:=fixL A.live σ') hst2 hlive hn h.wf ((hfr.trans f).trans (qsg hlive)) hq',hd.trans hd1,he'⟩
   ·exact hk.e i σ' a' w' own' ((hfr.trans f).mono hsub) (hd.trans hd1) hst' he'
   ·exact hk.r σ' a' w' own' ((hfr.trans f).mono hsub) (hd.trans hd1) hst' he'
 |_=>intro hp wr σ k Q1 a w own he hpc h hk; cases he
end
end Go.Vi
