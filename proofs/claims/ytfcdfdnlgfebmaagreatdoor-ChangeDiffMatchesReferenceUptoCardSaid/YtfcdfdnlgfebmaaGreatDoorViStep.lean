/- The abstract interpreter: one operation. -/
import Derived.Test.YtfcdfdnlgfebmaaGreatDoorViOpnd
import Derived.WalkKit
set_option linter.unusedVariables false
set_option linter.unusedSimpArgs false
set_option linter.unnecessarySimpa false
set_option linter.unusedSectionVars false
namespace Go.Vi
open Go.RowKit
theorem qak (σ:St) (u:U):(qR σ u).length=σ.length:=by simp [qR]
theorem qF (us:List U):∀σ:St,(qr σ us).length=σ.length:=by
 induction us with
 |nil=>intro σ; rfl
 |cons u us ih=>intro σ; show (qr (qR σ u) us).length=_; rw [ih,qak]
theorem qv (σ:St) (u:U) {s:Nat} (h:s≠u.s):qt (qR σ u) s=qt σ s:=by
 simp only [qt,qR,List.getD,List.getElem?_set_ne (Ne.symm h)]
theorem qM (σ:St) (u:U) (h:u.s<σ.length):qt (qR σ u) u.s=((if u.bump then (qt σ u.s).1+1 else (qt σ u.s).1),u.a):=by
 simp only [qt,qR,List.getD,List.getElem?_set_self h,Option.getD_some]
theorem qbF (σ:St) (a b:List U):qr σ (a++b)=qr (qr σ a) b:=List.foldl_append
theorem put_tmps (a:Act) (d:Nat) (v:Value):(a.put (some d) v).tmps=a.tmps.setIfInBounds d v:=rfl
theorem qdY (tm:Array Value) {d:Nat} (v:Value) (h:d<tm.size):(tm.setIfInBounds d v).getD d undef=v:=by simp [Array.getD,h]
theorem qb1 (tm:Array Value) {d s:Nat} (v:Value) (h:s≠d):(tm.setIfInBounds d v).getD s undef=tm.getD s undef:=by
 simp only [Array.getD_eq_getD_getElem?,Array.getElem?_setIfInBounds_ne (Ne.symm h)]
section
variable {C:Ctx} {σ:St} {tm:Array Value} {w w':World} {own:Nat→List Nat}
theorem qag.world (h:qag C σ tm w own) (hk:qcx (fun _=>False) w w'):qag C σ tm w' own:=
 h.update (fun _=>False) rfl rfl (fun _ _=>⟨rfl,rfl,rfl⟩) (fun _ hd=>hd.elim) (hk.mono fun _ h=>h.elim) (fun _ hd=>hd.elim) (fun _ hd=>hd.elim) (fun _ _ _ hd=>hd.elim) (fun _ hd=>hd.elim) (fun _ hd=>hd.elim)
def qcG (own:Nat→List Nat) (d:Nat) (bs:List Nat):Nat→List Nat:=fun s=>if s=d then bs else own s
def after (C:Ctx) (σ:St) (tm:Array Value) (w w':World) (own:Nat→List Nat) (bs:List Nat):Sit:=
 { P:=C.P,ver:=fun s=>(qt σ s).1,tm:=fun s=>tm.getD s undef,w:=w',F:=fun b=>(C.free w own b∨w.heap.size≤b)∧b<w'.heap.size∧b∉bs,own,pn:=C.pn }
theorem qag.set (h:qag C σ tm w own) (hk:qcx (fun _=>False) w w') {d:Nat} (hd:d<σ.length) {av:AV} {v:Value} {bs:List Nat} (hb:∀b∈bs,w.heap.size≤b∧b<w'.heap.size) (hn:bs.Nodup)
  (hr:qaF (after C σ tm w w' own bs) av v bs) (hw:∀m∈av.mentions,m.2≤(qt σ m.1).1):
  qag C (qR σ ⟨d,true,av⟩) (tm.setIfInBounds d v) w' (qcG own d bs):=by
 have hN:C.w0.heap.size≤w.heap.size:=h.kept.size
 have e1:qt (qR σ ⟨d,true,av⟩) d=((qt σ d).1+1,av):=qM σ ⟨d,true,av⟩ hd
 have e2:(tm.setIfInBounds d v).getD d undef=v:=qdY tm v (by rw [h.size]; exact hd)
 refine h.update (fun s=>s=d) (qak _ _) (by simp) ?_ ?_ (hk.mono fun _ h=>h.elim) ?_ ?_ ?_ ?_ ?_
 ·intro s hs
  exact ⟨qv _ _ hs,qb1 tm v hs,by simp [qcG,show s≠d from hs]⟩
 ·rintro s rfl
  rw [e1]
  exact .inl (Nat.lt_succ_self _)
 ·rintro s rfl; exact hd
 ·rintro s rfl
  simp only [qcG,if_true]
  exact ⟨fun b hbm=> .inl (hb b hbm),hn⟩
 ·rintro s s' b rfl rfl _ _
  rfl
 ·rintro s rfl
  rw [e1,e2]
  simp only [qcG,if_true]
  refine qaF.keep (X:=after C σ tm w w' own bs) (X':=sit C _ _ w' _) ⟨rfl,rfl⟩ ?_ (fun _ _ _=>rfl) ?_ hr
  ·rintro b ⟨hb1,hb2,hb3⟩ _
   refine ⟨⟨?_,hb2,fun s' hs'=> ?_⟩,hb2,rfl⟩
   ·rcases hb1 with hb1|hb1
    ·exact hb1.1
    ·exact .inr (.inr (by omega))
   ·simp only [qcG] at hs'
    split at hs'
    ·exact hb3 hs'
    ·rcases hb1 with hb1|hb1
     ·exact hb1.2.2 s' hs'
     ·have:=(h.mine s' b hs').2; omega
  ·intro m hm hv
   have hle:=hw m hm
   have hv:(qt (qR σ ⟨s,true,av⟩) m.1).1=m.2:=hv
   by_cases hms:m.1=s
   ·rw [hms,e1] at hv
    rw [hms] at hle
    simp only at hv
    omega
   ·rw [qv _ _ hms] at hv
    refine ⟨hv,qb1 tm v hms,fun b hb _=>⟨?_,rfl⟩⟩
    show b∈qcG own s bs m.1
    simp only [qcG,if_neg hms]
    exact hb
 ·rintro s rfl m hm
  rw [e1] at hm
  have hle:=hw m hm
  by_cases hms:m.1=s
  ·rw [hms,e1]
   rw [hms] at hle
   simp only
   omega
  ·rw [qv _ _ hms]
   exact hle
theorem qbg.freeze {F:Nat→Prop} : {c:BC} → {cs:List Value} → {bs:List Nat} →qbg w F c cs bs→qbg w (fun b=>F b∨b∈bs) c.freeze cs []
 | .val _ _,_,_,h=>⟨rfl,h.2.keep fun b hb hs=>⟨.inl hb,hs,rfl⟩⟩
 | .own _ _ _,_,_,⟨v,h1,h2⟩=>by
  subst h1
  have:=h2.rep.1
  rw [qcs (h2.rep.2.2 rfl)] at this
  exact ⟨rfl,this⟩
 | .pair _ _,_,_,⟨c1,c2,b1,b2,h1,h2,h3,h4⟩=>by
  subst h2
  exact ⟨c1,c2,[],[],h1,rfl,h3.freeze.keep (fun b hb hs=>⟨hb.imp id fun h=>List.mem_append_left _ h,hs,rfl⟩) (fun b hb=>by cases hb),h4.freeze.keep (fun b hb hs=>⟨hb.imp id fun h=>List.mem_append_right _ h,hs,rfl⟩) (fun b hb=>by cases hb)⟩
 | .hole _,_,_,h=>⟨rfl,h.2⟩
theorem qaW.freeze {F:Nat→Prop} : {c:List qod} → {cs:List Value} → {bs:List Nat} →qaW w F c cs bs→qaW w (fun b=>F b∨b∈bs) (c.map qod.freeze) cs []
 |[],_,_,h=>⟨h.1,rfl⟩
 |c::_,_,_,⟨v,r,b1,b2,h1,h2,h3,h4⟩=>by
  subst h2
  refine ⟨v,r,[],[],h1,rfl,?_,h4.freeze.keep (fun b hb hs=>⟨hb.imp id fun h=>List.mem_append_right _ h,hs,rfl⟩) (fun b hb=>by cases hb)⟩
  cases c with
  |val t x=>exact ⟨rfl,h3.2.mono fun b hb _=> .inl hb⟩
  |own et e xs=>exact ⟨rfl,(q7.rep h3).mono fun b hb _=>hb.imp id fun h=>List.mem_append_left _ h⟩
  |gone=>rfl
theorem AV.freeze_mentions:(a:AV)→a.freeze.mentions=a.mentions
 | .undef=>rfl
 | .val _ _=>rfl
 | .own _ _ _=>rfl
 | .agg _=>rfl
 | .box _=>rfl
 | .ref _ _=>rfl
 | .bref _ _ _ _=>rfl
 | .pbox _ _ _=>rfl
 | .pip _ _=>rfl
 | .prow _ _ _ _ _ _=>rfl
 | .osl _ _ _ _ _ _=>rfl
 | .view _ _ _=>rfl
 | .tup _=>rfl
 | .grd _ _ _ _=>rfl
 | .fn _ _=>rfl
 | .fnv _ _ _=>rfl
 | .amb _ _=>rfl
 | .nilr _ _=>rfl
 | .mp _ _ _=>rfl
 | .parr _ _ _ _ _ _ _=>rfl
theorem qaF.freeze {X X':Sit} (hP:X'.P=X.P∧X'.pn=X.pn) (hw:X'.w=X.w) (hver:∀s,X'.ver s=X.ver s) (htm:∀s,X'.tm s=X.tm s) (hown:∀s b,b∈X.own s→X.tm s=ptr b 0→b∈X'.own s)
  {bs nb:List Nat} {v:Value} (hnd:bs.Nodup) (hnb:∀b,b∈nb↔b∈bs∧v=ptr b 0) (hn2:nb.Nodup) (hF:∀b,X.F b→X'.F b) (hF2:∀b∈bs,b∉nb→X'.F b) {a:AV} (h:qaF X a v bs):qaF X' a.freeze v nb:=by
 have same:bs=[]→a.freeze=a→qaF X' a.freeze v nb:=fun hb ha=>by
  have hn:nb=[]:=by
   cases nb with
   |nil=>rfl
   |cons b r=>have:=((hnb b).1 List.mem_cons_self).1; rw [hb] at this; cases this
  rw [ha,hn]
  rw [hb] at h
  exact qaF.keep hP (fun b hb hlt=>⟨hF b hb,by rw [hw]; exact hlt,by rw [hw]⟩) (fun b _ _=>by rw [hw]) (fun m _ hv=>⟨by rw [←hver]; exact hv,htm m.1,fun b hb hp=>⟨hown _ b hb hp,by rw [hw]⟩⟩) h
 have none_:(∀b,v≠ptr b 0)→nb=[]:=fun hv=>by
  cases nb with
  |nil=>rfl
  |cons b r=>exact absurd ((hnb b).1 List.mem_cons_self).2 (hv b)
 cases a with
 |undef=>trivial
 |own et e xs=>
  have hn:=none_ (qkg h)
  subst hn
  have hr:qaq X.w _ (.slice e) xs _:=q7.rep h
  exact ⟨rfl,by rw [hw]; exact hr.mono fun b hb _=>hb.elim (hF b) fun hb=>hF2 b hb (by simp)⟩
 |agg c=>
  obtain ⟨cs,hcs,hb⟩:=h
  have hn:=none_ (fun b hp=>by rw [hcs] at hp; cases hp)
  subst hn
  exact ⟨cs,hcs,by rw [hw]; exact hb.freeze.keep (fun b hb hlt=>⟨hb.elim (hF b) fun hb=>hF2 b hb (by simp),hlt,rfl⟩) (fun _ hb=>by cases hb)⟩
 |tup c=>
  obtain ⟨cs,hcs,hb⟩:=h
  have hn:=none_ (fun b hp=>by rw [hcs] at hp; cases hp)
  subst hn
  exact ⟨cs,hcs,by rw [hw]; exact hb.freeze.keep (fun b hb hlt=>⟨hb.elim (hF b) fun hb=>hF2 b hb (by simp),hlt,rfl⟩) (fun _ hb=>by cases hb)⟩
 |box c=>
  obtain ⟨b0,cs,bs',te,h1,h2,h3,h4⟩:=h
  subst h4
  have hne:∀b,v=ptr b 0→b=b0:=fun b hp=>by rw [h1] at hp; simp [ptr] at hp; exact hp.symm
  have hn:nb=[b0]:=by
   have h0:b0∈nb:=(hnb b0).2 ⟨List.mem_cons_self,h1⟩
   cases nb with
   |nil=>cases h0
   |cons b r=>
    have hb:=hne b ((hnb b).1 List.mem_cons_self).2
    subst hb
    cases r with
    |nil=>rfl
    |cons b' r'=>
     have hb':=hne b' ((hnb b').1 (List.mem_cons_of_mem _ List.mem_cons_self)).2
     subst hb'
     exact absurd List.mem_cons_self (List.nodup_cons.1 hn2).1
  subst hn
  refine ⟨b0,cs,[],te,h1,by rw [hw]; exact h2,?_,rfl⟩
  rw [hw]
  refine h3.freeze.keep (fun b hb hlt=>⟨hb.elim (hF b) fun hb=>hF2 b (List.mem_cons_of_mem _ hb) ?_,hlt,rfl⟩) (fun _ hb=>by cases hb)
  intro hb'
  simp at hb'
  subst hb'
  exact (List.nodup_cons.1 hnd).1 hb
 |val t x=>exact same h.1 rfl
 |ref a b=>exact same h.1 rfl
 |bref a b c d=>exact same h.1 rfl
 |pbox a b c=>exact same h.1 rfl
 |pip a b=>exact same h.1 rfl
 |prow a b c d e f=>exact same h.1 rfl
 |osl a b c d e f=>exact same h.1 rfl
 |view a b c=>exact same h.1 rfl
 |grd a b c d=>exact same h.1 rfl
 |fn a b=>exact same h.1 rfl
 |fnv a b c=>exact same h.1 rfl
 |amb a b=>exact same h.1 rfl
 |nilr a b=>exact same h.1 rfl
 |mp a b c=>trivial
 |parr a b c d e f g=>exact same h.1 rfl
open Classical in
theorem qag.freeze (h:qag C σ tm w own) (s:Nat):∃own',qag C (qR σ ⟨s,false,(qt σ s).2.freeze⟩) tm w own'∧(∀s',s'≠s→own' s'=own s')∧(∀b∈own' s,b∈own s)∧
  (∀b,FW (sit C σ tm w own) [s] b→C.free w own' b):=by
 by_cases hs:s<σ.length
 case neg=>
  refine ⟨own,?_,fun _ _=>rfl,fun _ hb=>hb,?_⟩
  ·have:qR σ ⟨s,false,(qt σ s).2.freeze⟩=σ:=by simp only [qR]; exact List.set_eq_of_length_le (by omega)
   rw [this]; exact h
  ·rintro b (hb|⟨s',hs',hb,_⟩)
   ·exact hb
   ·simp at hs'; subst hs'
    have hb:b∈own s':=hb
    rw [h.outside s' (by omega)] at hb; cases hb
 have hat:=h.rep s hs
 have eS:qt (qR σ ⟨s,false,(qt σ s).2.freeze⟩) s=((qt σ s).1,(qt σ s).2.freeze):=qM σ ⟨s,false,_⟩ hs
 have eV:∀s',(qt (qR σ ⟨s,false,(qt σ s).2.freeze⟩) s').1=(qt σ s').1:=fun s'=>by
  by_cases he:s'=s
  ·rw [he,eS]
  ·rw [qv _ _ he]
 have eM:∀s',(qt (qR σ ⟨s,false,(qt σ s).2.freeze⟩) s').2.mentions=(qt σ s').2.mentions:=fun s'=>by
  by_cases he:s'=s
  ·rw [he,eS,AV.freeze_mentions]
  ·rw [qv _ _ he]
 obtain ⟨nb,hnb,hnd⟩:∃nb:List Nat,(∀b,b∈nb↔b∈own s∧tm.getD s undef=ptr b 0)∧nb.Nodup:=
  ⟨(own s).filter fun b=>decide (tm.getD s undef=ptr b 0),fun b=>by simp,(h.nodup s).filter _⟩
 have ownSub:∀s' b,b∈qcG own s nb s'→b∈own s':=fun s' b hb=>by
  simp only [qcG] at hb
  split at hb
  ·rename_i e; rw [e]; exact ((hnb b).1 hb).1
  ·exact hb
 have freeMono:∀b,C.free w own b→C.free w (qcG own s nb) b:=fun b hb=>⟨hb.1,hb.2.1,fun s' hs'=>hb.2.2 s' (ownSub s' b hs')⟩
 have freeNew:∀b∈own s,b∉nb→C.free w (qcG own s nb) b:=fun b hb hnb=>⟨.inr (h.mine s b hb).1,(h.mine s b hb).2,fun s' hs'=>by
  simp only [qcG] at hs'
  split at hs'
  ·exact hnb hs'
  ·rename_i hne; exact hne (h.apart s' s b hs' hb)⟩
 have hptr:∀s' b,b∈own s'→tm.getD s' undef=ptr b 0→b∈qcG own s nb s':=fun s' b hb hp=>by
  simp only [qcG]
  split
  ·rename_i e; subst e; exact (hnb b).2 ⟨hb,hp⟩
  ·exact hb
 refine ⟨qcG own s nb,⟨by rw [qak]; exact h.size,h.kept,fun s' b hb=>h.mine s' b (ownSub s' b hb),fun s'=> ?_,fun s' s'' b hb hb'=>h.apart s' s'' b (ownSub _ _ hb) (ownSub _ _ hb'),fun s' hs'=> ?_,?_,?_⟩,fun s' hs'=>by simp [qcG,hs'],fun b hb=>ownSub s b hb,?_⟩
 ·simp only [qcG]
  split
  ·exact hnd
  ·exact h.nodup s'
 ·rw [qak] at hs'
  simp only [qcG]
  split
  ·rename_i e; subst e; omega
  ·exact h.outside s' hs'
 ·intro s' hs'
  rw [qak] at hs'
  by_cases he:s'=s
  ·subst he
   rw [eS]
   simp only [qcG,if_true]
   exact qaF.freeze (X:=sit C σ tm w own) (X':=sit C (qR σ ⟨s',false,(qt σ s').2.freeze⟩) tm w (qcG own s' nb)) ⟨rfl,rfl⟩ rfl eV (fun _=>rfl) hptr (h.nodup s') hnb hnd freeMono freeNew hat
  ·rw [qv _ _ he]
   have hr:=h.rep s' hs'
   have e3:qcG own s nb s'=own s':=by simp [qcG,he]
   rw [e3]
   exact qaF.keep (X:=sit C σ tm w own) (X':=sit C (qR σ ⟨s,false,(qt σ s).2.freeze⟩) tm w (qcG own s nb)) ⟨rfl,rfl⟩ (fun b hb hlt=>⟨freeMono b hb,hlt,rfl⟩) (fun _ _ _=>rfl) (fun m _ hv=>⟨(eV m.1).symm.trans hv,rfl,fun b hb hp=>⟨hptr m.1 b hb hp,rfl⟩⟩) hr
 ·intro s' m hm
  rw [eM] at hm
  rw [eV]
  exact h.wf s' m hm
 ·rintro b (hb|⟨s',hs',hb,hp⟩)
  ·exact freeMono b hb
  ·simp at hs'; subst hs'
   exact freeNew b hb fun hb'=>hp ((hnb b).1 hb').2
end
end Go.Vi
