/- The abstract interpreter: code. -/
import Derived.Test.YtfcdfdnlgfebmaaGreatDoorViCode
import Derived.Test.YtfcdfdnlgfebmaaGreatDoorViDraw
set_option linter.unusedVariables false
set_option linter.unusedSimpArgs false
set_option linter.unnecessarySimpa false
set_option linter.unusedSectionVars false
namespace Go.Vi
open Go.RowKit
section
variable {C:Ctx} {E:Env} {σ τ:St} {tm:Array Value} {a:Act} {w w':World} {own:Nat→List Nat} {o:Oper} {p:qhl} [Tabbed E C]
theorem qla: {c:List Bool} →qu1 c=true→qd3 c
 |[],_=>fun b hb=>by cases hb
 |[x],h=>fun b hb=>by simp at hb; rw [hb]; exact h
 |x::y::r,h=>fun b hb=>by
  simp only [qu1,Bool.and_eq_true] at h
  rcases List.mem_cons.1 hb with rfl|hb
  ·exact h.1
  ·exact qla h.2 b hb
theorem qf8 {wr:List Nat} :(us:List U)→ {σ:St} →(∀u∈us,u.s∈wr)→Fr wr σ (qr σ us)
 |[],σ,_=>⟨rfl,fun _ _=>rfl⟩
 |u::us,σ,h=>by
  obtain ⟨h1,h2⟩:=qf8 us (σ:=qR σ u) (fun v hv=>h v (List.mem_cons_of_mem _ hv))
  refine ⟨by rw [show qr σ (u::us)=qr (qR σ u) us from rfl,h1,qak],fun s hs=> ?_⟩
  show qt (qr (qR σ u) us) s=_
  rw [h2 s hs]
  exact qv σ u fun e=>hs (e ▸ h u List.mem_cons_self)
theorem Fr.trans {wr:List Nat} {a b c:St} (h:Fr wr a b) (k:Fr wr b c):Fr wr a c:=⟨k.1.trans h.1,fun s hs=>(k.2 s hs).trans (h.2 s hs)⟩
theorem Fr.refl (wr:List Nat) (a:St):Fr wr a a:=⟨rfl,fun _ _=>rfl⟩
theorem Fr.mono {wr wr':List Nat} {a b:St} (h:Fr wr a b) (hs:∀s∈wr,s∈wr'):Fr wr' a b:=⟨h.1,fun s hn=>h.2 s fun hm=>hn (hs s hm)⟩
def quX (σ σ':St):Prop:=∀s,(qt σ s).1≤(qt σ' s).1
theorem qpH (σ:St) (u:U):quX σ (qR σ u):=fun s=>by
 by_cases h:s=u.s
 ·subst h
  by_cases hl:u.s<σ.length
  ·rw [qM σ u hl]
   simp only
   split
   ·exact Nat.le_succ _
   ·exact Nat.le_refl _
  ·have:qR σ u=σ:=by simp only [qR]; exact List.set_eq_of_length_le (by omega)
   rw [this]
   exact Nat.le_refl _
 ·rw [qv _ _ h]; exact Nat.le_refl _
theorem quX.trans {a b c:St} (h:quX a b) (k:quX b c):quX a c:=fun s=>Nat.le_trans (h s) (k s)
theorem qkD:(us:List U)→(σ:St)→quX σ (qr σ us)
 |[],_=>fun _=>Nat.le_refl _
 |u::us,σ=>(qpH σ u).trans (qkD us (qR σ u))
theorem qj0 {wr:List Nat} {ops:Array Oper} :(l:List Oper)→ {σ σ':St} → {c c':List Bool} → {fs fs':List qeY} →qdv E wr ops l σ c fs=some (σ',c',fs')→
  Fr wr σ σ'∧quX σ σ'∧(∀b∈c,b∈c')∧(∀f∈fs,f∈fs')∧Fr (fs'.flatMap (·.wr)) σ σ'
 |[],σ,σ',c,c',fs,fs',he=>by
  simp only [qdv,Option.some.injEq,Prod.mk.injEq] at he
  obtain ⟨rfl,rfl,rfl⟩:=he
  exact ⟨Fr.refl _ _,fun _=>Nat.le_refl _,fun _ h=>h,fun _ h=>h,Fr.refl _ _⟩
 |o::r,σ,σ',c,c',fs,fs',he=>by
  simp only [qdv] at he
  split at he
  ·cases he
  rename_i g hg
  split at he
  ·cases he
  rename_i f hf
  split at he
  case isFalse=>cases he
  rename_i hu
  obtain ⟨h1,h2,h3,h4,h5⟩:=qj0 r he
  have hu':∀u∈f.upd,u.s∈wr:=fun u hm=>by
   have:=List.all_eq_true.1 hu u hm
   simp at this
   exact this.1
  refine ⟨(qf8 f.upd hu').trans h1,(qkD _ _).trans h2,fun b hb=>h3 b (List.mem_append_left _ hb),fun x hx=>h4 x (List.mem_cons_of_mem _ hx),(qf8 f.upd fun u hm=> ?_).trans h5⟩
  exact List.mem_flatMap.2 ⟨_,h4 _ List.mem_cons_self,List.mem_map_of_mem hm⟩
def qdK (pin:List Nat) (a a':Act):Prop:=a'.defers=a.defers∧∀s∈pin,a'.tmps.getD s undef=a.tmps.getD s undef
theorem qdK.refl (pin:List Nat) (a:Act):qdK pin a a:=⟨rfl,fun _ _=>rfl⟩
theorem qdK.trans {pin:List Nat} {a b c:Act} (h:qdK pin b c) (k:qdK pin a b):qdK pin a c:=⟨h.1.trans k.1,fun s hs=>(h.2 s hs).trans (k.2 s hs)⟩
theorem qdK.pinC {pin:List Nat} {a a':Act} (hF:qoa E C pin) (hpc:qtJ C a.tmps) (h:qdK pin a a'):qtJ C a'.tmps:=fun k b hb=>(h.2 k (hF.sub k b hb)).trans (hpc k b hb)
theorem qmJ (hE:qbG E C.P) {pin wr:List Nat} (hF:qoa E C pin) {ops:Array Oper} {Q:Exit→Act→World→Prop} :(l:List Oper)→qmK pin l=true→ {σ σ':St} → {a:Act} → {w:World} → {own:Nat→List Nat} → {c c':List Bool} → {fs fs':List qeY} →
  qdv E wr ops l σ c fs=some (σ',c',fs')→qd3 c'→qtJ C a.tmps→qag C σ a.tmps w own→(∀a' w' own',qdK pin a a'→qag C σ' a'.tmps w' own'→Q .normal a' w')→wpList C.P ops Q l a w
 |[],_,σ,σ',a,w,own,c,c',fs,fs',he,_,_,h,hQ=>by
  simp only [qdv,Option.some.injEq,Prod.mk.injEq] at he
  obtain ⟨rfl,_,_⟩:=he
  exact hQ a w own (qdK.refl _ _) h
 |o::r,hp,σ,σ',a,w,own,c,c',fs,fs',he,hc,hpc,h,hQ=>by
  simp only [qmK,List.all_cons,Bool.and_eq_true] at hp
  simp only [qdv] at he
  split at he
  ·cases he
  rename_i g hg
  split at he
  ·cases he
  rename_i f hf
  split at he
  case isFalse=>cases he
  rename_i hu
  have hu':∀u∈f.upd,u.s<σ.length:=fun u hm=>by
   have:=List.all_eq_true.1 hu u hm
   simp at this
   exact this.2
  obtain ⟨_,_,h3,_,_⟩:=qj0 r he
  have hcf:qd3 f.chk:=fun b hb=>hc b (h3 b (List.mem_append_right _ hb))
  have hok:=qoz hE hF hpc h hg hf hu' hcf (wpList C.P ops Q r) Q fun a' w' own' hd hst=>by
   have hk:qdK pin a a':=⟨hd.1,fun s hs=>hd.2 s fun e=>qfB hp.1 s (by simp [e]) hs⟩
   exact qmJ hE hF r hp.2 he hc (hk.pinC hF hpc) hst fun a2 w2 own2 hd2 hst2=>hQ a2 w2 own2 (hd2.trans hk) hst2
  unfold wpList
  split at hok
  ·rename_i hw
   rw [if_pos hw]
   exact .inl hok
  ·rename_i hw
   rw [if_neg hw]
   exact hok
theorem qrn {listed:Array Bool} (h:listed.toList.countP (fun b=> !b)=0) {i:Nat} (hi:i<listed.size):listed.getD i false=true:=by
 have:=List.countP_eq_zero.1 h listed[i] (by simp)
 rw [Array.getD_eq_getD_getElem?,Array.getElem?_eq_getElem hi]
 simpa using this
theorem qt8 (hE:qbG E C.P) {pin:List Nat} (hF:qoa E C pin) {ops:Array Oper} {Q:Exit→Act→World→Prop} {fl0 fl:List qeY} {c:List Bool} {a0:Act} (hp:qmK pin ops.toList=true) (hd:qrQ E ops σ ops.toList fl0 c) (hus:fl.map (·.us)=fl0.map (·.us)) (hsoft:∀(i:Nat) (o:Oper) (f f':qeY),ops.toList[i]? =some o→fl0[i]? =some f→fl[i]? =some f'→f'.rd=f.rd∨∃s,qiY o=some s∧qqJ σ fl0 s=true) (hg:qiw ops.toList fl [] []=true) (hc:qd3 c) (hpc:qtJ C a0.tmps)
  (hQ:∀a' w' own',qdK pin a0 a'→qag C (qex fl σ) a'.tmps w' own'→Q .normal a' w'):∀(fuel:Nat) (listed:Array Bool) (a:Act) (w:World) (own:Nat→List Nat),listed.size=ops.size→listed.toList.countP (fun b=> !b)=fuel→ql4 ops (fun i=>listed.getD i false)→qdK pin a0 a→
   qag C (qcf (fun i=>listed.getD i false) 0 fl σ) a.tmps w own→wpAny C.P .any ops Q fuel listed a w:=by
 have hlen0:fl0.length=ops.size:=by have:=hd.1; simpa using this
 have hlen:fl.length=ops.size:=by have:=congrArg List.length hus; simp only [List.length_map] at this; omega
 have full:∀ {listed:Array Bool},(∀i,i<ops.size→listed.getD i false=true)→qcf (fun i=>listed.getD i false) 0 fl σ=qex fl σ:=by
  intro listed hall
  have hb:=qdm fl 0 fl.length σ
  rw [List.take_length] at hb
  rw [←hb]
  apply qnY
  ·rw [qbD,qbD]
  ·intro s
   refine qdl fl 0 rfl rfl fun k g hg _=> ?_
   have:=(List.getElem?_eq_some_iff.1 hg).1
   rw [hall (0+k) (by omega),decide_eq_true (by omega)]
 intro fuel
 induction fuel with
 |zero=>
  intro listed a w own hs hcnt hcl hk hst
  have hall:∀i,i<ops.size→listed.getD i false=true:=fun i hi=>qrn hcnt (by omega)
  refine ⟨?_,hQ a w own hk (by rw [full hall] at hst; exact hst)⟩
  cases hr:Region.ready .any ops listed with
  |nil=>rfl
  |cons i r=>
   obtain ⟨h1,h2,_⟩:=qip (ops:=ops) (listed:=listed) (i:=i) (by rw [hr]; exact List.mem_cons_self)
   have h3:=hall i h1
   rw [Array.getD_eq_getD_getElem?,Array.getElem?_eq_getElem (by omega)] at h2 h3
   simp only [Option.getD_some] at h2 h3
   rw [h2] at h3
   cases h3
 |succ fuel ih=>
  intro listed a w own hs hcnt hcl hk hst
  refine ⟨fun hr=> ?_,fun i hi=> ?_⟩
  ·have hall:∀i,i<ops.size→listed.getD i false=true:=by
    intro i
    induction i using Nat.strongRecOn with
    |ind i ihi=>
     intro hi
     cases hb:listed.getD i false with
     |true=>rfl
     |false=>
      have ho:ops[i]? =some ops[i]:=Array.getElem?_eq_getElem hi
      obtain ⟨_,M,hM⟩:=qm6 hg
      obtain ⟨q1,_,_⟩:=hM i _ _ ho (List.getElem?_eq_getElem (by omega))
      have hb':listed.getD i true=false:=by
       rw [Array.getD_eq_getD_getElem?,Array.getElem?_eq_getElem (by omega)] at hb⊢
       exact hb
      have:=qmr ho hb' fun j hj=>ihi j (q1 j hj) (by have:=q1 j hj; omega)
      rw [hr] at this
      cases this
   exact hQ a w own hk (by rw [full hall] at hst; exact hst)
  ·obtain ⟨h1,h2,o,ho,he⟩:=qip hi
   have hf:fl[i]? =some fl[i]:=List.getElem?_eq_getElem (by omega)
   have hn:listed.getD i false=false:=by
    rw [Array.getD_eq_getD_getElem?,Array.getElem?_eq_getElem (by omega)] at h2⊢
    exact h2
   have hf0:fl0[i]? =some fl0[i]:=List.getElem?_eq_getElem (by omega)
   obtain ⟨g,f,k1,k2,k3,k4,k5⟩:=hd.2 i o _ (by simpa using ho) hf0
   have hui:(fl[i]).us=f.upd:=by
    have h1:(fl.map (·.us))[i]? =(fl0.map (·.us))[i]? :=by rw [hus]
    simp only [List.getElem?_map,hf,hf0,Option.map_some,Option.some.injEq] at h1
    rw [h1,k3]
   have hta:qex (fl0.take i) σ=qex (fl.take i) σ:=ql6 _ _ (by rw [List.map_take,List.map_take,hus]) σ
   have hrun:(qis E g o).run (qt (qcf (fun i=>listed.getD i false) 0 fl σ))=some f:=by
    rw [←k2]
    rcases hsoft i o _ _ (by simpa using ho) hf0 hf with hrd|⟨s,hs1,hs2⟩
    ·rw [hta]
     rw [hta] at k3
     refine Go.Vi.Q.run_congr _ fun s hs=>qm7 hg hcl ho hf hn he (.inl ?_)
     rw [hrd,k3]
     exact hs
    ·have hgn:=qs3 hs1 k1
     subst hgn
     simp only [qqJ,Bool.and_eq_true] at hs2
     obtain ⟨a1,a2⟩:=qgU (S:=fun i=>listed.getD i false) fl0 0 hs2.1 hs2.2
     obtain ⟨b1,b2⟩:=qgU (S:=fun k=>decide (k<0+i)) fl0 0 hs2.1 hs2.2
     rw [qpd _ fl0 fl hus.symm] at a1 a2
     rw [qdm fl0 0 i σ] at b1 b2
     exact qto hs1 b2 a2 (a1.trans b1.symm)
   have hok:=qoz hE hF (hk.pinC hF hpc) hst k1 hrun (fun u hu=>by rw [qbD]; exact k4 u hu) (fun b hb=>hc b (k5 b hb)) (wpAny C.P .any ops Q fuel (listed.setIfInBounds i true)) Q fun a' w' own' hkd hst'=> ?_
   ·unfold wpOp
    rw [ho]
    simp only
    split at hok
    ·rename_i hw
     rw [if_pos hw]
     exact .inl hok
    ·rename_i hw
     rw [if_neg hw]
     exact hok
   ·have hset:∀j,(listed.setIfInBounds i true).getD j false=if j=i then true else listed.getD j false:=by
     intro j
     simp only [Array.getD_eq_getD_getElem?,Array.getElem?_setIfInBounds]
     by_cases hj:j=i
     ·subst hj
      simp [hs,h1]
     ·rw [if_neg (fun e=>hj e.symm),if_neg hj]
    refine ih _ a' w' own' (by simpa using hs) ?_ ?_ ?_ ?_
    ·rw [Array.toList_setIfInBounds,List.countP_set (by simp; omega),hcnt]
     have hb:listed.toList[i]'(by simp; omega)=false:=by
      rw [Array.getD_eq_getD_getElem?,Array.getElem?_eq_getElem (by omega)] at hn
      simpa using hn
     rw [hb]
     simp
    ·intro j oj hoj hSj k hkk
     simp only [hset] at hSj⊢
     split
     ·rfl
     ·by_cases hji:j=i
      ·subst hji
       rw [ho] at hoj
       injection hoj with hoj
       subst hoj
       exact he k hkk
      ·rw [if_neg hji] at hSj
       exact hcl j oj hoj hSj k hkk
    ·refine qdK.trans ⟨hkd.1,fun s hs=>hkd.2 s fun e=> ?_⟩ hk
     have:=List.all_eq_true.1 hp o (by have:=Array.mem_of_getElem? ho; simpa using this)
     exact qfB this s (by simp [e]) hs
    ·have e:=qpT (σ:=σ) hg (S':=fun j=>(listed.setIfInBounds i true).getD j false) hcl ho hf hn he (by simp [hset]) (fun j hj=>by simp [hset,hj])
     rw [e]
     rw [hui]
     exact hst'
theorem qjj (hE:qbG E C.P) {pin wr:List Nat} (hF:qoa E C pin) {id:Nat} {ops:Array Oper} {d:Bool} {Q:Exit→Act→World→Prop} {σ':St} {c:List Bool} {ds:List Nat} (hp:qmK pin ops.toList=true) (he:qdp E wr ops d σ=some (σ',c,ds)) (hc:qd3 c) (hpc:qtJ C a.tmps) (h:qag C σ a.tmps w own)
  (hQ:∀a' w' own',qdK pin a a'→qag C σ' a'.tmps w' own'→Q .normal a' w'):(Code.region id ops d).wp C.P Q a w:=by
 unfold qdp at he
 split at he
 case h_2=>cases he
 rename_i σ1 c1 fs h1
 split at he
 case isFalse=>cases he
 rename_i hd
 injection he with he
 simp only [Prod.mk.injEq] at he
 obtain ⟨rfl,rfl,rfl⟩:=he
 cases d with
 |false=>exact wp_region_list (qmJ hE hF ops.toList hp h1 hc hpc h hQ)
 |true=>
  obtain ⟨fl,g1,g2,g3,_⟩:=qkJ ops.toList h1
  have hfs:fs.reverse=fl:=by rw [g1]; simp
  rw [hfs] at hd
  have hd:qiw ops.toList (qi9 σ fl ops.toList fl) [] []=true:=by simpa using hd
  have hsu:=qoe σ fl ops.toList fl g2.1
  refine wp_region_any hE.mixed (qt8 hE hF (a0:=a) hp g2 hsu (qo8 σ fl ops.toList fl g2.1) hd hc hpc (by rw [ql6 _ _ hsu,←g3]; exact hQ) _ _ _ _ own (by simp) (by simp [List.countP_replicate]) (fun i o ho hS=> ?_) (qdK.refl _ _) ?_)
  ·simp [Array.getD_eq_getD_getElem?,Array.getElem?_replicate] at hS
   split at hS <;> simp at hS
  ·have e:qcf (fun i=>(Array.replicate ops.size false).getD i false) 0 (qi9 σ fl ops.toList fl) σ=σ:=by
    have:(fun i=>(Array.replicate ops.size false).getD i false)=fun _=>false:=by
     funext i
     simp only [Array.getD_eq_getD_getElem?,Array.getElem?_replicate]
     split <;> rfl
    rw [this,qiX]
   rw [e]
   exact h.drew
theorem qjB {wr:List Nat} {ops:Array Oper} {d:Bool} {σ':St} {c:List Bool} {ds:List Nat} (he:qdp E wr ops d σ=some (σ',c,ds)):Fr wr σ σ'∧quX σ σ'∧Fr ds σ σ':=by
 unfold qdp at he
 split at he
 case h_2=>cases he
 rename_i σ1 c1 fs h1
 split at he
 case isFalse=>cases he
 injection he with he
 simp only [Prod.mk.injEq] at he
 obtain ⟨rfl,rfl,rfl⟩:=he
 obtain ⟨k1,k2,_,_,k5⟩:=qj0 ops.toList h1
 exact ⟨k1,k2,k5⟩
theorem qlw (b:Bool) (σ1 σ2:St):(ds:List Nat)→(σ:St)→(qkz b ds σ σ1 σ2).length=σ.length∧∀s,(s∈ds∧s<σ.length→qt (qkz b ds σ σ1 σ2) s=(max (qt σ1 s).1 (qt σ2 s).1+1,qgm b (qt σ1 s).2 (qt σ2 s).2))∧(¬(s∈ds∧s<σ.length)→qt (qkz b ds σ σ1 σ2) s=qt σ s)
 |[],σ=>⟨rfl,fun s=>⟨fun h=>(by cases h.1),fun _=>rfl⟩⟩
 |d::ds,σ=>by
  obtain ⟨h1,h2⟩:=qlw b σ1 σ2 ds (σ.set d (max (qt σ1 d).1 (qt σ2 d).1+1,qgm b (qt σ1 d).2 (qt σ2 d).2))
  have e:qkz b (d::ds) σ σ1 σ2=qkz b ds (σ.set d (max (qt σ1 d).1 (qt σ2 d).1+1,qgm b (qt σ1 d).2 (qt σ2 d).2)) σ1 σ2:=rfl
  rw [e]
  refine ⟨by rw [h1]; simp,fun s=> ?_⟩
  obtain ⟨k1,k2⟩:=h2 s
  rw [List.length_set] at k1 k2
  by_cases hs:s∈ds∧s<σ.length
  ·exact ⟨fun _=>k1 hs,fun hn=>absurd ⟨List.mem_cons_of_mem _ hs.1,hs.2⟩ hn⟩
  ·rw [k2 hs,qh1]
   by_cases hd:s=d∧d<σ.length
   ·rw [if_pos hd]
    obtain ⟨rfl,hd⟩:=hd
    exact ⟨fun _=>rfl,fun hn=>absurd ⟨List.mem_cons_self,hd⟩ hn⟩
   ·rw [if_neg hd]
    refine ⟨fun hn=> ?_,fun _=>rfl⟩
    rcases List.mem_cons.1 hn.1 with rfl|hm
    ·exact absurd ⟨rfl,hn.2⟩ hd
    ·exact absurd ⟨hm,hn.2⟩ hs
theorem qag.join {b:Bool} {ds:List Nat} {σ1 σ2:St} (h:qag C (bif b then σ1 else σ2) tm w own) (h1:Fr ds σ σ1) (h2:Fr ds σ σ2):qag C (qkz b ds σ σ1 σ2) tm w own:=by
 obtain ⟨j1,j2⟩:=qlw b σ1 σ2 ds σ
 have hf:Fr ds σ (bif b then σ1 else σ2):=by cases b <;> assumption
 have zero:∀ {ρ:St} {s:Nat},ρ.length=σ.length→¬s<σ.length→qt ρ s=(0,.undef):=fun {ρ s} hl hs=>by simp [qt,List.getD,List.getElem?_eq_none (show ρ.length≤s by omega)]
 refine h.retag (j1.trans hf.1.symm) (fun s=>s∈ds∧s<σ.length) (fun s hs=> ?_) (fun s hs=> ?_) (fun s m _ hm hb=> ?_)
 ·rw [(j2 s).2 hs]
  by_cases hd:s∈ds
  ·have hl:¬s<σ.length:=fun hl=>hs ⟨hd,hl⟩
   rw [zero rfl hl,zero hf.1 hl]
  ·exact (hf.2 s hd).symm
 ·rw [(j2 s).1 hs]
  have e:(qt (bif b then σ1 else σ2) s).2=bif b then (qt σ1 s).2 else (qt σ2 s).2:=by cases b <;> rfl
  refine ⟨?_,fun v hv=> ?_⟩
  ·exact (qmU (X:=sit C (bif b then σ1 else σ2) tm w own) b (by rw [←e]; exact h.at_ s)).2
  ·rw [e] at hv
   exact (qmU b hv).1
 ·rw [(j2 m.1).1 hb]
  have:=h.wf s m hm
  have:m.2≤max (qt σ1 m.1).1 (qt σ2 m.1).1:=by
   cases b
   ·exact Nat.le_trans this (Nat.le_max_right _ _)
   ·exact Nat.le_trans this (Nat.le_max_left _ _)
  show m.2<_+1
  omega
theorem qo0 {b:Bool} {ds wr:List Nat} {σ1 σ2:St} (h:∀s∈ds,s∈wr):Fr wr σ (qkz b ds σ σ1 σ2):=by
 obtain ⟨j1,j2⟩:=qlw b σ1 σ2 ds σ
 exact ⟨j1,fun s hs=>(j2 s).2 fun hn=>hs (h s hn.1)⟩
end
end Go.Vi
