import Derived.Test.YtghccmfcndnljaaGreatViXC
import Derived.Deep.LoopGhost
import Derived.Orders
import Derived.Test.YtghccmfcndnljaaGreatViXB
set_option linter.unusedVariables false
set_option linter.unusedSimpArgs false
set_option linter.unnecessarySimpa false
set_option linter.unusedSectionVars false
open Array renaming getD_eq_getD_getElem? → zaA, getElem?_eq_getElem → zaF, getElem?_eq_some_iff → zav, length_toList → zaI
open Bool renaming and_eq_true → zad, false_eq_true → za0, not_eq_true' → za8, not_true → zaT, true_and → zbd
open List renaming all_eq_true → zaN, append_assoc → zaC, drop_zero → zbe, eq_nil_of_length_eq_zero → zaV, flatten_cons → zaX, getD_eq_getElem?_getD → zaz, getElem?_append_left → zaP, getElem?_append_right → zaL, getElem?_drop → zan, getElem?_eq_getElem → zaa, getElem?_eq_none → zaD, getElem?_eq_some_iff → zao, getElem?_take → zal, getElem_mem → zau, getElem_of_mem → zaw, length_append → zag, length_cons → zba, length_drop → zap, length_take → zaf, map_cons → zaZ, mem_append → zaj, mem_append_left → zac, mem_append_right → zab, mem_cons → zam, mem_cons_of_mem → zae, mem_cons_self → zai, mem_flatMap → za2, mem_map → zaS, mem_map_of_mem → zaR, mem_of_getElem? → zaU, mem_singleton → zat, nodup_append → zah, nodup_cons → zax, nodup_nil → zaH, pairwise_iff_getElem → zaQ, take_append_drop → zaK, take_length → za5, take_of_length_le → zas
open Nat renaming add_zero → zbf, le_refl → zay, lt_irrefl → zaW, lt_of_lt_of_le → zaE, lt_succ_self → zbb, zero_add → zaM, zero_le → za6
open Option renaming some → zbg
open Prod renaming mk → zbh
namespace Go.Vi
open Go.RowKit
structure qh9 (E:Env) (C:Ctx) (pin:List Nat):Prop where
 fns:qgd E C.P
 pins:∀k∈E.pins,∃b,C.pn k=some b
 sub:∀k b,C.pn k=some b→k∈pin
def qn8 (C:Ctx) (tm:Array Value):Prop:=∀k b,C.pn k=some b→tm.getD k undef=ptr b 0
section
variable {C:Ctx}{E:Env}{σ:St}{tm:Array Value}{a:Act}{w w':World}{own:Nat→List Nat}{o:Oper}{p:qg3} [Tabbed E C]
theorem qcS {a b:List Nat}(h:apart a b=true):∀s∈a,s∉b:=by
 intro s hs hb;have:=zaN.1 h s hs;simp at this;exact this hb
theorem qcC.turn {L:Value}{σ':St}{own':Nat→List Nat}(hl:σ'.length=σ.length): {ps:List PM}→{as:List Value}→{ss i inn:List Nat}→(∀s∈ss,own' s=own s)→qcC L σ tm own ps as ss i inn→qcC L σ' tm own' ps as ss i inn
 |[],_,_,_,_,_,h=>h
 |.io _::ps,_,_,_,_,hs,⟨s,r,b,i2,n1,n2,h1,h2,h3,h4,h5,h6,h7⟩=>by
  subst h1;exact⟨s,r,b,i2,n1,n2,rfl,h2,h3,by rw[hs s zai];exact h4,h5,by rw[hl];exact h6,h7.turn hl fun s' hs'=>hs s' (zae _ hs')⟩
 |.iob _::ps,_,_,_,_,hs,⟨s,r,b,i2,n1,n2,m,h1,h2,h3,h4,h5,h6,h7⟩=>by
  subst h1;exact⟨s,r,b,i2,n1,n2,m,rfl,h2,h3,by rw[hs s zai];exact h4,h5,by rw[hl];exact h6,h7.turn hl fun s' hs'=>hs s' (zae _ hs')⟩
 |.ior _ _::ps,_,_,_,_,hs,⟨s,r,i1,i2,h1,h2,h3,h4,h5,h6,h7⟩=>by
  subst h1;exact⟨s,r,i1,i2,rfl,h2,by rw[hs s zai];exact h3,h4,h5,by rw[hl];exact h6,h7.turn hl fun s' hs'=>hs s' (zae _ hs')⟩
 |.lsw _ _::ps,_,_,_,_,hs,⟨s,r,i1,i2,h1,h2,h3,h4,h5,h8,h6,h7⟩=>by
  subst h1;exact⟨s,r,i1,i2,rfl,h2,by rw[hs s zai];exact h3,h4,h5,h8,by rw[hl];exact h6,h7.turn hl fun s' hs'=>hs s' (zae _ hs')⟩
 |.val _::ps,_,_,_,_,hs,h=>qcC.turn (ps:=ps) hl hs h
 |.own _ _::ps,_,_,_,_,hs,h=>qcC.turn (ps:=ps) hl hs h
 |.fn _ _::ps,_,_,_,_,hs,h=>qcC.turn (ps:=ps) hl hs h
 |.nil _ _::ps,_,_,_,_,hs,h=>qcC.turn (ps:=ps) hl hs h
 |.rd _::ps,_,_,_,_,hs,h=>qcC.turn (ps:=ps) hl hs h
theorem qlD {L:Value}:(ts:List Ty)→(as:List Value)→qcC L σ tm own (valPs ts) as [] [] []
 |[],_=>⟨rfl,rfl,rfl⟩
 |_::r,as=>qlD r as.tail
theorem qud (h:qac C σ a.tmps w own) (hpt:qt7 (sit C σ a.tmps w own)) {D:qr}{fn:Nat}(hD:D.okT C.P E.tabs fn) (hFn:qgd E C.P) {os:List Op1}{vs:List Value}(ho:qk1 (sit C σ a.tmps w own) os vs) (hlt:∀o1∈os,∀s,o1.s=some s→o1.a≠ .undef→s<σ.length)
  {f:Eff}(he:(qvU E o D os).run (qt σ)=some f) (hd:∀u∈f.upd,u.s<σ.length) (hc:qcT f.chk)
  (hr:(execOp a.eval o).run C.P w=.ok (.enter fn vs.toArray) w):qcW C o a w (qk σ f.upd):=by
 unfold qvU at he;obtain⟨A,h1,he⟩:=Q.yb he;split at he;case isFalse=>cases he
 rename_i hcond;simp only[zad]at hcond;obtain⟨⟨c1,c2⟩,c3⟩:=hcond;obtain⟨fz,h2,he⟩:=Q.yb he;have:=Q.yc he;subst this;have hsem:∃y,D.sem A.x=some y:=by
  have:=hc _ (zat.2 rfl);exact Option.isSome_iff_exists.1 (by rw[qgL]at this;exact this)
 obtain⟨y,hy⟩:=hsem;simp only[hy,qjz,Option.getD_some]at hd⊢
 obtain⟨g,i,inn,k1,⟨k2,k3⟩,k4,k5⟩:=qde hFn h hpt D.ps ho hlt h1;have hdst:∀d,o.dst=some d→d∉A.gone++A.ios:=fun d hd=>qcS c3 d (by simp[hd]);have hnd:=qdT c1;have hap:=qcS c2;by_cases hfl:(RMs.flat D.rs&&PMs.yg D.ps)=true
 ·rw[if_pos hfl]at h2;have:=Q.yc h2;subst this;simp only[zad]at hfl;refine qmJ h (fun hpre hgi=>hD.2 w _ A.x y vs g i (h.tabsE.keep fun b hb hlt=>⟨.inl (.inl hb),hlt,rfl⟩) k1 hpre hgi hy) k2 k3 k4 k5 (fun b hb=>?_) (.inl hfl) hnd hdst (fun u hu=>hd u (zab _ (zab _ hu))) hr;rcases hb with(hb|⟨s,hs,hb,_⟩)|hb
  ·exact .inl hb
  ·exact .inr (.inr ⟨s,hap s hs,hb⟩)
  ·exact .inr (.inl hb)
 ·rw[if_neg hfl]at h2;obtain⟨own',q1,q2,q3,q4⟩:=qdg A.ow h h2;have same:∀s∈A.gone++A.ios,own' s=own s:=fun s hs=>(q3 s fun hm=>hap s hm hs).1;rw[qbC];have k1':qaq C.P w (fun b=>C.free w own' b∨b∈inn) D.ps A.x vs g i:=k1.mono (fun b hb=>hb.imp (q4 b) id) D.ps;refine qmJ q1 (F:=fun b=>C.free w own' b∨b∈inn) (fun hpre hgi=>hD.2 w _ A.x y vs g i (q1.tabsE.keep fun b hb hlt=>⟨.inl hb,hlt,rfl⟩) k1' hpre hgi hy) (fun b hb=>?_) k3 (fun s hs=>by rw[qO];exact k4 s hs) (k5.turn (qO _ _) fun s hs=>same s (zab _ hs)) (fun b hb=>?_) (.inr fun b hb=>hb) hnd hdst (fun u hu=>by rw[qO];exact hd u (zab _ (zab _ hu))) hr
  ·obtain⟨s,hs,hb⟩:=k2 b hb;exact⟨s,hs,by rw[same s hs];exact hb⟩
  ·rcases hb with hb|hb
   ·exact .inl hb
   ·exact .inr (.inl hb)
theorem qn2 (h:qac C σ a.tmps w own):∀(xs:List Operand) (ts:List Nat) {os:List Op1},(qvL E p xs ts).run (qt σ)=some os→∀o1∈os,∀s,o1.s=some s→o1.a≠ .undef→s<σ.length
 |[],_,os,he=>by
  have:=Q.yc he;subst this;intro o1 ho1;cases ho1
 |x::xs,ts,os,he=>by
  obtain⟨o1,h1,he⟩:=Q.yb he;obtain⟨r,h2,he⟩:=Q.yb he;have:=Q.yc he;subst this;intro o2 ho2;rcases zam.1 ho2 with rfl|ho2
  ·exact qnc h1
  ·exact qn2 h xs ts.tail h2 o2 ho2
theorem quz (h:qac C σ a.tmps w own) (hpt:qt7 (sit C σ a.tmps w own)) (hFn:qgd E C.P) {ts us:List Ty}{φ:denL ts→Option (denL us)}{fv:Value}(hfv:qn7 C.P w (C.free w own) ts us φ fv) {os:List Op1}{vs:List Value}(ho:qk1 (sit C σ a.tmps w own) os vs) (hlt:∀o1∈os,∀s,o1.s=some s→o1.a≠ .undef→s<σ.length)
  {f:Eff}(he:(qwn E o ts us φ os).run (qt σ)=some f) (hd:∀u∈f.upd,u.s<σ.length) (hc:qcT f.chk)
  (hr:∀fn caps,fv=.func (.func fn) #[] caps→(∀as w',(callFunc fn as).run C.P w'=.ok (.enter fn as) w')→(execOp a.eval o).run C.P w=.ok (.enter fn (vs.toArray++caps)) w):qcW C o a w (qk σ f.upd):=by
 unfold qwn at he;obtain⟨A,h1,he⟩:=Q.yb he;obtain⟨fz,h2,he⟩:=Q.yb he;have:=Q.yc he;subst this;have hsem:∃y,φ (qvI ts A.x)=some y:=by
  have:=hc _ (zat.2 rfl);exact Option.isSome_iff_exists.1 (by rw[qgL]at this;exact this)
 obtain⟨y,hy⟩:=hsem;simp only[hy,qjz,Option.getD_some]at hd⊢
 obtain⟨g,i,inn,k1,⟨k2,k3⟩,k4,k5⟩:=qde hFn h hpt (valPs ts) ho hlt h1;obtain⟨e1,e2,e3⟩:=qmt ts h1;obtain⟨k6,rfl,rfl⟩:=qmF ts k1;obtain⟨fn,caps,hfv1,hfv2,hfv3⟩:=hfv;have hio:PMs.yg (valPs ts)=true:=qk0 ts;have hups:qeB (valPs ts) (PMs.yk (valPs ts)) []=[]:=ql9 ts _;have hinn:inn=[]:=(qkM ts k5).2.2;subst hinn;let D:qr:=⟨valPs ts,valRs us,fun _=>none⟩;have fin:∀ {σ2:St}{own2:Nat→List Nat}{F:Nat→Prop},qac C σ2 a.tmps w own2→(∀b,C.free w own b→F b)→qe9 w F ts (qvI ts A.x) vs→(∀b,F b→C.free w own2 b∨b∈[]∨(∃s,s∉[]++[]∧b∈own2 s))→
   ((RMs.flat (valRs us)=true∧PMs.yg (valPs ts)=true)∨∀b,F b→C.free w own2 b∨b∈[])→(∀u∈qbp o (qiQ (valRs us) (quV us y)),u.s<σ2.length)→
   qcW C o a w (qk σ2 (qbp o (qiQ (valRs us) (quV us y)))):=by
  intro σ2 own2 F hst hfr hval hF1 hF2 hd2;have:=qmJ (D:=D) (f:=fn) (y:=(quV us y,PMs.yk (valPs ts))) (as:=vs.toArray++caps) (gone:=[]) (ios:=[]) (g:=[]) (i:=[]) (inn:=[]) (al:=vs) (F:=F) hst (fun _ _=>?_) (fun b hb=>by cases hb) (fun _=>zaH) (fun s hs=>by cases hs) (qlD ts vs) hF1 hF2 zaH (fun d _ hm=>by cases hm) hd2 (hr fn caps hfv1 hfv2)
  ·have e:([]:List Nat).map (fun s=>(⟨s,true,.undef⟩:U))++qeB D.ps (PMs.yk (valPs ts)) []++qbp o (qiQ D.rs (quV us y))=qbp o (qiQ (valRs us) (quV us y)):=by
    show qeB (valPs ts) (PMs.yk (valPs ts)) []++_=_;rw[hups];rfl
   simp only at this;rw[e]at this;exact this
  ·refine Calls.mono (hfv3 w F (qvI ts A.x) y vs (fun b hb hlt=>⟨hfr b hb,hlt,rfl⟩) hval hy) ?_;rintro e w' ⟨rs,rfl,hvs,hk⟩;have m1:qa3 w' (qgn w F [] [] ([]++[])) (qdd D.rs (quV us y)) rs []:=qnG us (hvs.mono us fun b hb=>⟨hb.elim .inl fun h=>.inr (.inr h),by simp,by simp⟩);have m2:qc5 w' (qgn w F [] [] ([]++[])) D.ps (PMs.yk (valPs ts)) vs [] []:=qkV ts;have m0:∀b∈([]:List Nat),(b∈([]:List Nat)∨w.heap.size≤b)∧b<w'.heap.size:=fun b hb=>by cases hb
   exact⟨_,rfl,rs,[],[],rfl,zaH,m0,m1,m2,hk.mono fun _ h=>h.elim⟩
 by_cases hfl:RMs.flat (valRs us)=true
 ·rw[if_pos hfl]at h2;have:=Q.yc h2;subst this;refine fin h (fun b hb=>.inl (.inl hb)) k6 (fun b hb=>?_) (.inl ⟨hfl,hio⟩) hd;rcases hb with(hb|⟨s,hs,hb,_⟩)|hb
  ·exact .inl hb
  ·exact .inr (.inr ⟨s,by simp,hb⟩)
  ·cases hb
 ·rw[if_neg hfl]at h2;obtain⟨own',q1,q2,q3,q4⟩:=qdg A.ow h h2;rw[qbC];refine fin (F:=fun b=>C.free w own' b∨b∈([]:List Nat)) q1 (fun b hb=>.inl (q4 b (.inl hb))) (k6.mono ts fun b hb=>hb.imp (q4 b) id) (fun b hb=>hb.elim .inl fun h=>by cases h) (.inr fun b hb=>hb) (fun u hu=>by rw[qO];exact hd u (zab _ hu))
theorem qoU (h:qac C σ a.tmps w own) {x:Op1}{v:Value}(ho:qbB (sit C σ a.tmps w own) x v) {i:IntKind×Int}(he:(qiL x).run (qt σ)=some i) (hk:i.1=.i64):v=.int .i64 i.2:=by
 obtain⟨e,_⟩:=qem h ho he;rw[e,hk]
theorem qtX (h:qac C σ a.tmps w own) {et:Nat}{e:Ty}{k:Nat}{φ:List e.den→Int→Int→Option Bool}{fv:Value}(hfv:fv=lsC k C.pn.ls) (hL:qjL C.P w (C.free w own) et e φ C.pn.ls) {os:List Op1}{vs:List Value}(ho:qk1 (sit C σ a.tmps w own) os vs)
  {f:Eff}(he:(qtq o et e k φ os).run (qt σ)=some f) (hd:∀u∈f.upd,u.s<σ.length) (hc:qcT f.chk)
  (hr:∀fn caps,fv=.func (.func fn) #[] caps→(execOp a.eval o).run C.P w=(callFunc fn (vs.toArray++caps)).run C.P w):qcW C o a w (qk σ f.upd):=by
 unfold qtq at he;split at he;case h_2=>cases he
 rename_i x y;match vs,ho with
 |[vx,vy],⟨hox,hoy,_⟩=>?_
 obtain⟨i,hi,he⟩:=Q.yb he;obtain⟨j,hj,he⟩:=Q.yb he;split at he;case isFalse=>cases he
 rename_i hij;have ex:=qoU h hox hi hij.1;have ey:=qoU h hoy hj hij.2;subst ex;subst ey;rw[Q.yd]at he;split at he;case h_2=>cases he
 rename_i et' e' xs φ' h0;split at he;case isFalse=>cases he
 rename_i hty;obtain⟨rfl,rfl⟩:=hty;have hat:=h.at_ 0;rw[h0]at hat;obtain⟨ht,hR,hL0⟩:=hat;have ht:a.tmps.getD 0 undef=C.pn.ls:=ht;have hob:own 0=(qeb C.pn.ls).ownBlock.toList:=by
  obtain⟨_,cells,_,hb,_⟩:=hR;rw[hb,ht]
 have hR:qcd w (C.free w own) et' e' xs (qeb C.pn.ls) (qeb C.pn.ls).ownBlock.toList:=by
  rw[ht,hob]at hR;exact hR
 obtain⟨g,caps,g2,caps2,hv,hen,hll⟩:=id hL;obtain⟨hless,hswap⟩:=hll w (C.free w own) xs (fun b hb hlt=>⟨hb,hlt,rfl⟩) hR (fun b hb hf=>hf.2.2 0 (by rw[hob];exact hb));have hs0:0<σ.length:=qfv (by rw[h0];simp);split at he
 ·have:=Q.yc he;subst this;have hsome:=hc _ (zat.2 rfl);rw[qgL]at hsome;obtain⟨r,hr0⟩:=Option.isSome_iff_exists.1 hsome;have hgv:fv=.func (.func g) #[] caps:=by rw[hfv,hv];rfl
  have hcl:=hless i.2 j.2 r hr0;have hrun:=hr g caps hgv;simp only[hr0,qjz,Option.getD_some]at hd⊢
  intro K Q hK;unfold Oper.wp;rw[hrun,hen];refine Calls.mono hcl ?_;rintro ev w' ⟨rfl,hk⟩;obtain⟨own',hst⟩:=(h.world hk).dst0 (o:=o) (av:= .val .bool r) (v:= .bool r) hd (qau.valAV _ (by exact⟨rfl,fun hh=>(by cases hh),fun _ cs hh=>by cases hh⟩)) (fun m hm=>by cases hm);exact hK _ _ own' (qfG o a _) hst
 ·split at he;case isFalse=>cases he
  rename_i hap;have:=Q.yc he;subst this;have hb1:=hc _ zai;have hb2:=hc _ (zae _ (zat.2 rfl));obtain⟨w',hrun2,hk,hR'⟩:=hswap i.2 j.2 hb1 hb2;have hgv:fv=.func (.func g2) #[] caps2:=by rw[hfv,hv];rfl
  have hrun:=(hr g2 caps2 hgv).trans hrun2;have hst:qac C (qk σ [⟨0,false,.lsw et' e' (qmO xs i.2 j.2) none⟩]) a.tmps w' own:=by
   have e0:qt (qk σ [⟨0,false,.lsw et' e' (qmO xs i.2 j.2) none⟩]) 0=((qt σ 0).1,.lsw et' e' (qmO xs i.2 j.2) none):=qS σ ⟨0,false,_⟩ hs0;have eN:∀s,s≠0→qt (qk σ [⟨0,false,.lsw et' e' (qmO xs i.2 j.2) none⟩]) s=qt σ s:=fun s hs=>qu σ ⟨0,false,_⟩ hs;refine h.update (fun s=>s=0) (qO _ _) rfl (fun s hs=>⟨eN s hs,rfl,rfl⟩) (fun s hs=>?_) (hk.mono fun b hb=>⟨0,rfl,by rw[hob];exact hb⟩) (fun s hs=>by subst hs;exact hs0) (fun s hs=>?_) (fun s s' b hs hs' _ _=>hs.trans hs'.symm) (fun s hs=>?_) (fun s hs m hm=>?_)
   ·subst hs;refine .inr ⟨by rw[e0],rfl,fun b hb hp=>?_⟩;rw[ht,hv]at hp;cases hp
   ·subst hs;exact⟨fun b hb=>.inr ⟨0,rfl,hb⟩,h.nodup 0⟩
   ·subst hs;rw[e0];refine⟨ht,?_,fun ψ hψ=>by cases hψ⟩;rw[ht,hob];refine hR'.keep (fun b hb hlt=>⟨⟨hb.1,zaE hb.2.1 hk.size,hb.2.2⟩,hlt,rfl⟩) (fun _ _ _=>rfl)
   ·subst hs;rw[e0]at hm;cases hm
  have e1:qk σ (⟨0,false,.lsw et' e' (qmO xs i.2 j.2) none⟩::qbp o .undef)=qk (qk σ [⟨0,false,.lsw et' e' (qmO xs i.2 j.2) none⟩]) (qbp o .undef):=rfl;show qcW C o a w (qk σ (⟨0,false,.lsw et' e' (qmO xs i.2 j.2) none⟩::qbp o .undef));rw[e1];exact qz hrun (hst.dst0 (v:= .tuple #[]) (fun u hu=>by rw[qO];exact hd u (zae _ hu)) trivial (fun m hm=>by cases hm))
 ·cases he
theorem qtV (hE:qa2 E C.P) (hF:qgd E C.P) (h:qac C σ a.tmps w own) (hp:qbV (sit C σ a.tmps w own) p) {c:Call}(hop:o.op=.call c) {f:Eff}
  (he:(qec E p o).run (qt σ)=some f) (hd:∀u∈f.upd,u.s<σ.length) (hc:qcT f.chk):qcW C o a w (qk σ f.upd):=by
 unfold qec at he;rw[hop]at he;simp only at he;split at he
 ·rename_i b hb;obtain⟨os,h1,he⟩:=Q.yb he;refine qpZ hE h (qmc h hp _ _ h1) (qn2 h _ _ h1) he hd hc ⟨o.type,(c.args.map fun|.const _=>true|_=>false),?_⟩;unfold execOp;rw[hop];simp only[resolve,hb,Sem.run_bind,Sem.run_pure,Result.andThen_ok,invoke];rw[show c.args.map a.eval=(c.args.toList.map a.eval).toArray from by apply Array.ext';simp,show c.argTypes.toList.toArray=c.argTypes from by simp];rfl
 ·rename_i x hx;split at he
  ·rename_i fn;split at he
   ·rename_i D hD;obtain⟨os,h1,he⟩:=Q.yb he;refine qud h hp.1 (hF fn D hD) hF (qmc h hp _ _ h1) (qn2 h _ _ h1) he hd hc ?_;unfold execOp;rw[hop];have e1:a.eval (.func fn)=.func (.func fn) #[] #[]:=rfl;simp only[resolve,hx,e1,Deferred.ofValue,Sem.run_bind,Sem.run_pure,Result.andThen_ok,invoke];rw[show c.args.map a.eval=(c.args.toList.map a.eval).toArray from by apply Array.ext';simp];simpa using(hF fn D hD).1 (c.args.toList.map a.eval).toArray w
   ·cases he
  ·rename_i s;rw[Q.yd]at he;have hop1:=qaz h hp (E:=E) (tid:=0) (x:= .tmp s) (o1:=⟨some s,(qt σ s).1,qbk p (qt σ s).2⟩) rfl;split at he;case h_3=>cases he
   case h_2=>
    rename_i et e k φ hst;obtain⟨os,h1,he⟩:=Q.yb he;have hu:=hop1.unowned (by rw[hst];rfl);rw[hst]at hu;refine qtX h (fv:=a.eval (.tmp s)) hu.2.1 hu.2.2 (qmc h hp _ _ h1) he hd hc fun fn caps hfe=>?_;unfold execOp;rw[hop];simp only[resolve,hx,hfe,Deferred.ofValue,Sem.run_bind,Sem.run_pure,Result.andThen_ok,invoke];rw[show c.args.map a.eval=(c.args.toList.map a.eval).toArray from by apply Array.ext';simp];simp
   rename_i ts us φ hst;obtain⟨os,h1,he⟩:=Q.yb he;have hfv:qn7 C.P w (C.free w own) ts us φ (a.eval (.tmp s)):=by
    have:=hop1.unowned (by rw[hst];rfl);rw[hst]at this;exact this.2
   refine quz h hp.1 hF hfv (qmc h hp _ _ h1) (qn2 h _ _ h1) he hd hc fun fn caps hfe henter=>?_;unfold execOp;rw[hop];simp only[resolve,hx,hfe,Deferred.ofValue,Sem.run_bind,Sem.run_pure,Result.andThen_ok,invoke];rw[show c.args.map a.eval=(c.args.toList.map a.eval).toArray from by apply Array.ext';simp];simpa using henter ((c.args.toList.map a.eval).toArray++caps) w
  ·cases he
 ·cases he
theorem qpV (hE:qa2 E C.P) (hF:qgd E C.P) (hpn:∀k∈E.pins,∃b,C.pn k=some b) (h:qac C σ a.tmps w own) (hp:qbV (sit C σ a.tmps w own) p) {f:Eff}
  (he:(qec E p o).run (qt σ)=some f) (hd:∀u∈f.upd,u.s<σ.length) (hc:qcT f.chk):qcW C o a w (qk σ f.upd):=by
 cases hop:o.op with
 |move x=>exact qpe hpn h hp (as:=false) hop he hd hc
 |assign x=>exact qpe hpn h hp (as:=true) hop he hd hc
 |pick c x y=>exact qsS h hp hop he hd hc
 |alloc t=>exact qrn hE h hp hop he hd hc
 |box t x=>exact qva hE h hp hop he hd hc
 |build t ps=>exact qrz hE h hp hop he hd hc
 |buildSlice t n ps=>exact qlK hE h hp hop he hd hc
 |load t x=>exact qt3 hE h hp hop he hd hc
 |store t x y=>exact qr3 hE h hp hop he hd hc
 |nilCheck x=>exact qnU h hp hop he hd hc
 |binOp op t x y b=>exact qrD hE h hp hop he hd hc
 |unOp op t x=>exact qtW h hp hop he hd hc
 |convert s d x=>exact qpt hE h hp hop he hd hc
 |slice t x lo hi mx=>
  cases mx with
  |none=>exact qrL hE h hp hop he hd hc
  |some m=>unfold qec at he;rw[hop]at he;cases he
 |fieldAddr t x f=>exact qm2 hE h hp hop he hd hc
 |field t x f=>exact qr1 hE h hp hop he hd hc
 |indexAddr t x ix=>exact qm8 hE h hp hop he hd hc
 |index t x ix=>exact qr0 hE h hp hop he hd hc
 |extract x i=>exact qo7 h hp hop he hd hc
 |makeSlice t x y=>exact qm0 hE h hp hop he hd hc
 |call c=>exact qtV hE hF h hp hop he hd hc
 |makeFunc fn first caps=>exact qoz hF h hop he hd
 |makeMap t r=>exact qo1 hE h hop he hd
 |range t x=>exact qrU hE h hp hop he hd
 |entry x=>exact qsd hE h hp hop he hd
 |lookup t m k ok=>exact qqx hE h hp hop he hd
 |mapUpdate t m k x=>exact qiG hE h hp (.inl hop) he hd
 |insert t m k x=>exact qiG hE h hp (.inr hop) he hd
 |_=>unfold qec at he;rw[hop]at he;cases he
end
end Go.Vi
namespace Go.Vi
open Go.RowKit
section
variable {C:Ctx}{E:Env}{σ:St}{tm:Array Value}{a:Act}{w w':World}{own:Nat→List Nat}{o:Oper}{p:qg3} [Tabbed E C]
theorem qhP (h:qac C σ tm w own):∀(n s:Nat) (want:Bool) {p:qg3},(qeg n s want).run (qt σ)=some p→
  (∃b r,p=(s,(qt σ s).1,want,b)::r)∧(tm.getD s undef=.bool want→(∀q∈p,(sit C σ tm w own).ver q.1=q.2.1∧(sit C σ tm w own).tm q.1=.bool q.2.2.1∧q.2.2.2=q.2.2.1)∧qmR p=true)
 |0,_,_,_,he=>by cases he
 |n+1,s,want,p,he=>by
  simp only[qeg,Q.yd]at he;have hat:=h.at_ s;split at he
  ·rename_i b hb;have:=Q.yc he;subst this;rw[hb]at hat;have hv:tm.getD s undef=.bool b:=qau.bool hat.2;refine⟨⟨b,[],rfl⟩,fun ht=>?_⟩;rw[hv]at ht;injection ht with ht;subst ht;refine⟨fun q hq=>?_,by cases b<;>rfl⟩;simp at hq;subst hq;exact⟨rfl,hv,rfl⟩
  ·rename_i s2 v2 w2 b hb;obtain⟨r,h1,he⟩:=Q.yb he;obtain⟨⟨b3,r3,hr⟩,hp⟩:=qhP h n s2 w2 h1;rw[hr]at he;simp only at he;split at he
   ·rename_i hv;have:=Q.yc he;subst this;rw[hb]at hat;obtain⟨g1,g2⟩:=hat.2 hv;refine⟨⟨b,_,rfl⟩,fun ht=>?_⟩;have hw2:tm.getD s2 undef=.bool w2:=by
     by_cases hc:tm.getD s2 undef=.bool w2
     ·exact hc
     ·have:=g2 hc;rw[ht]at this;cases this
    obtain⟨k1,k2⟩:=hp hw2;have hv2:tm.getD s undef=.bool b:=qau.bool (g1 hw2).2;rw[hv2]at ht;injection ht with ht;subst ht;rw[hr]at k1 k2;refine⟨fun q hq=>?_,?_⟩
    ·rcases zam.1 hq with rfl|hq
     ·exact⟨rfl,hv2,rfl⟩
     ·exact k1 q hq
    ·have e:lit b b=true:=by cases b<;>rfl
     simp only[qmR,e,zbd];simpa[qmR]using k2
   ·cases he
  ·cases he
theorem qiE (h:qac C σ tm w own):∀(n s:Nat) (want:Bool) {p:qg3},(qeg n s want).run (qt σ)=some p→qmR p=true→tm.getD s undef=.bool want
 |0,_,_,_,he,_=>by cases he
 |n+1,s,want,p,he,hc=>by
  simp only[qeg,Q.yd]at he;have hat:=h.at_ s;split at he
  ·rename_i b hb;have:=Q.yc he;subst this;rw[hb]at hat;have hv:tm.getD s undef=.bool b:=qau.bool hat.2;rw[hv];cases want<;>cases b<;>simp_all [qmR,lit]
  ·rename_i s2 v2 w2 b hb;obtain⟨r,h1,he⟩:=Q.yb he;obtain⟨⟨b3,r3,hr⟩,hp⟩:=qhP h n s2 w2 h1;have ih:=qiE h n s2 w2 h1;rw[hr]at he ih;simp only at he;split at he
   ·rename_i hv;have:=Q.yc he;subst this;rw[hb]at hat;have hc2:lit want b=true∧qmR ((s2,(qt σ s2).1,w2,b3)::r3)=true:=by simpa[qmR]using hc
    have hv2:tm.getD s undef=.bool b:=qau.bool ((hat.2 hv).1 (ih hc2.2)).2;rw[hv2];cases want<;>cases b<;>simp_all [lit]
   ·cases he
  ·cases he
theorem qid {σ':St}:∀(n s:Nat) (want:Bool) {p:qg3},(qeg n s want).run (qt σ)=some p→(∀q∈p,qt σ' q.1=qt σ q.1)→(qeg n s want).run (qt σ')=some p
 |0,_,_,_,he,_=>by cases he
 |n+1,s,want,p,he,hq=>by
  simp only[qeg,Q.yd]at he⊢
  split at he
  ·rename_i b hb;have:=Q.yc he;subst this;have e:=hq (s,(qt σ s).1,want,b) (by simp);simp only at e;rw[e,hb];rfl
  ·rename_i s2 v2 w2 b hb;obtain⟨r,h1,he⟩:=Q.yb he;split at he
   ·rename_i s3 v3 w3 b3 r3;split at he
    ·rename_i hv;have:=Q.yc he;subst this;have e:=hq (s,(qt σ s).1,want,b) (by simp);simp only at e;have ih:=qid n s2 w2 h1 (fun q hm=>hq q (zae _ hm));rw[e,hb];simp only[Q.ym,ih,Option.bind_some,if_pos hv];rfl
    ·cases he
   ·cases he
  ·cases he
theorem qoO:∀(ms:List (Nat×Nat)) {u:Unit},(qqL ms).run (qt σ)=some u→∀m∈ms,m.2≤(qt σ m.1).1
 |[],_,_,m,hm=>by cases hm
 |m::r,u,he,m',hm=>by
  simp only[qqL,Q.yd]at he;split at he
  ·rename_i hle;rcases zam.1 hm with rfl|hm
   ·exact hle
   ·exact qoO r he m' hm
  ·cases he
theorem qpE (s:Nat):∀(us:List U) (σ:St),s<σ.length→(qt (qk σ us) s).1=(qt σ s).1+qks s us
 |[],_,_=>rfl
 |u::us,σ,hs=>by
  have ih:=qpE s us (qX σ u) (by rw[qal];exact hs);show(qt (qk (qX σ u) us) s).1=_;rw[ih];by_cases e:u.s=s
  ·subst e;rw[qS σ u hs];cases hb:u.bump
   ·simp[qks,hb]
   ·simp[qks,hb];omega
  ·rw[qu σ u (fun h=>e h.symm)];have e2:(u.s==s)=false:=by simpa using e
   simp[qks,e2]
theorem qkO:(us:List U)→{σ:St}→{s:Nat}→s∉us.map (·.s)→qt (qk σ us) s=qt σ s
 |[],_,_,_=>rfl
 |u::us,σ,s,h=>by
  simp only[zaZ,zam,not_or]at h;exact(qkO us (σ:=qX σ u) h.2).trans (qu _ _ h.1)
def isPb:AV→Prop
 |.pbox _ _ _=>True
 |_=>False
theorem qeL {us:List U}{d:List Nat}{tm':Array Value}{w':World}{own':Nat→List Nat}(h:qac C σ tm w own) (hk:∀s,s∉d→tm'.getD s undef=tm.getD s undef):
  ∀(l:List Nat) {τ:St}{us':List U},τ.length=σ.length→qac C τ tm' w' own'→(∀x,qt τ x=qt (qk σ us) x∨(isPb (qt σ x).2∧isPb (qt τ x).2))→
  (qga us d l).run (qt σ)=some us'→(∀u∈us',u.s<σ.length)→qac C (qk τ us') tm' w' own'
 |[],τ,us',hl,hst,hi,he,hd=>by
  have:=Q.yc he;subst this;exact hst
 |t::r,τ,us',hl,hst,hi,he,hd=>by
  simp only[qga,Q.yd]at he;split at he;case h_2=>exact qeL h hk r hl hst hi he hd
  rename_i s v off ht;split at he;case isFalse=>exact qeL h hk r hl hst hi he hd
  rename_i hcond;simp only[zad,za8,bne_iff_ne,ne_eq]at hcond;obtain⟨⟨⟨⟨c1,c2⟩,c3⟩,c4⟩,c5⟩:=hcond;rw[Q.yd]at he;split at he;case h_2=>exact qeL h hk r hl hst hi he hd
  rename_i cc hs;split at he;case isFalse=>exact qeL h hk r hl hst hi he hd
  rename_i hv;obtain⟨l',h1,he⟩:=Q.yb he;have:=Q.yc he;subst this;have hsd:s∉d:=by simpa using c3
  have htd:t∉d:=by simpa using c4
  have htl:t<σ.length:=hd _ zai;have hsl:s<σ.length:=Classical.byContradiction fun hn=>by
   have:qt σ s=(0,.undef):=by simp only[qt,zaz,zaD (Nat.not_lt.1 hn),Option.getD_none]
   rw[this]at hs;cases hs
  have htu:t∉us.map (·.s):=fun hm=>by
   obtain⟨u,hu,e⟩:=zaS.1 hm;have:us.any (fun u=>u.s==t)=true:=List.any_eq_true.2 ⟨u,hu,by simp[e]⟩;rw[this]at c2;cases c2
  have hpt:isPb (qt τ t).2:=by
   rcases hi t with e|e
   ·rw[e,qkO us htu,ht];trivial
   ·exact e.2
  have hown:own' t=[]:=by
   have hr:=hst.rep t (by omega);generalize (qt τ t).2=q at hpt hr;cases q<;>first|exact hpt.elim|exact hr.1
  have hver:(qt τ s).1=(qt σ s).1+qks s us:=by
   rcases hi s with e|e
   ·rw[e];exact qpE s us σ hsl
   ·rw[hs]at e;exact e.1.elim
  have hptr:∃b,tm'.getD s undef=ptr b 0∧tm'.getD t undef=ptr b off:=by
   have hr:=h.rep t htl;rw[ht]at hr;obtain⟨b,q1,q2⟩:=hr.2 hv;exact⟨b,(hk s hsd).trans q1,(hk t htd).trans q2⟩
  have htl':t<τ.length:=by omega
  have eT:qt (qX τ ⟨t,true,.pbox s (v+qks s us) off⟩) t=((qt τ t).1+1,.pbox s (v+qks s us) off):=qS τ ⟨t,true,_⟩ htl';have eN:∀x,x≠t→qt (qX τ ⟨t,true,.pbox s (v+qks s us) off⟩) x=qt τ x:=fun x hx=>qu τ ⟨t,true,.pbox s (v+qks s us) off⟩ hx;refine qeL h hk r (τ:=qX τ ⟨t,true,.pbox s (v+qks s us) off⟩) (by rw[qal];exact hl) ?_ ?_ h1 (fun u hu=>hd u (zae _ hu))
  ·refine hst.update (fun x=>x=t) (qal _ _) rfl (fun x hx=>⟨eN x hx,rfl,rfl⟩) (fun x hx=>.inl (by subst hx;rw[eT];exact zbb _)) (qbc.refl _ _) (fun x hx=>by subst hx;exact htl') (fun x hx=>?_) (fun x y b hx hy _ _=>hx.trans hy.symm) (fun x hx=>?_) (fun x hx m hm=>?_)
   ·subst hx;rw[hown];exact⟨fun b hb=>(by cases hb),zaH⟩
   ·subst hx;rw[eT,hown];exact⟨rfl,fun _=>hptr⟩
   ·subst hx;rw[eT]at hm;simp only[AV.mentions,zat]at hm;subst hm;rw[eN s c5,hver,hv];exact zay _
  ·intro x;by_cases hx:x=t
   ·subst hx;exact .inr ⟨by rw[ht];trivial,by rw[eT];trivial⟩
   ·rw[eN x hx];exact hi x
theorem qnE (h:qac C σ a.tmps w own) {f0 f:Eff}(hok:(∀u∈f0.upd,u.s<σ.length)→qcT f0.chk→qcW C o a w (qk σ f0.upd)) (he:(qly E o f0).run (qt σ)=some f) (hd:∀u∈f.upd,u.s<σ.length) (hc:qcT f.chk):qcW C o a w (qk σ f.upd):=by
 unfold qly at he;split at he
 ·have:=Q.yc he;subst this;exact hok hd hc
 split at he;case isFalse=>
  have:=Q.yc he;subst this;exact hok hd hc
 obtain⟨us,h1,he⟩:=Q.yb he;have:=Q.yc he;subst this;intro K Q1 hK;refine hok (fun u hu=>hd u (zac _ hu)) hc K Q1 fun a' w' own' hde hst=>hK a' w' own' hde ?_;rw[qbC];exact qeL h (fun s hs=>hde.2 s (fun e=>hs (by simp[e]))) _ (qO _ _) hst (fun x=>.inl rfl) h1 fun u hu=>hd u (zab _ hu)
def GOpOk (C:Ctx) (ops:Array Oper) (o:Oper) (a:Act) (w:World) (τ:St):Prop:=
 ∀(K:Act→World→Prop) (Q:Exit→Act→World→Prop),(∀a' w' own',qve o a a'→qac C τ a'.tmps w' own'→K a' w')→
  if Region.wanted o (yielded ops a.tmps)then o.wp C.P a w K Q else K (a.put o.dst undef) w
theorem qns {ops:Array Oper}{j d:Nat}(hj:(ops[j]?).bind (·.dst)=some d) {tm:Array Value}(want:Bool):(yielded ops tm j=some want)↔tm.getD d undef=.bool want:=by
 unfold yielded;rw[hj];simp only[Option.bind_some];cases hd:tm[d]? with
 |none=>
  have:tm.getD d undef=undef:=by simp[zaA,hd]
  rw[this];simp[undef]
 |some v=>
  have:tm.getD d undef=v:=by simp[zaA,hd]
  rw[this];cases v<;>simp
theorem qfF (hE:qa2 E C.P) {pin:List Nat}(hF:qh9 E C pin) (hpc:qn8 C a.tmps) (h:qac C σ a.tmps w own) {ops:Array Oper}{g:Option (Nat×Bool)}(hg:qb3 ops o=some g) {f:Eff}
  (he:(qdv E g o).run (qt σ)=some f) (hd:∀u∈f.upd,u.s<σ.length) (hc:qcT f.chk):GOpOk C ops o a w (qk σ f.upd):=by
 intro K Q1 hK;unfold qb3 at hg;split at hg
 ·rename_i hgd;injection hg with hg;subst hg;have hw:Region.wanted o (yielded ops a.tmps)=true:=by simp[Region.wanted,hgd]
  rw[if_pos hw];obtain⟨f0,h0,he⟩:=Q.yb he;exact qnE h (fun hd hc=>qpV hE hF.fns hF.pins h ⟨hpc,fun q hq=>by cases hq⟩ h0 hd hc) he hd hc K Q1 hK
 ·rename_i j want hgd;split at hg;case h_2=>cases hg
  rename_i s hj;injection hg with hg;subst hg;have hw:Region.wanted o (yielded ops a.tmps)=true↔a.tmps.getD s undef=.bool want:=by
   rw[←qns hj want];simp[Region.wanted,hgd]
  obtain⟨pth,h1,he⟩:=Q.yb he;obtain⟨f1,h2,he⟩:=Q.yb he;obtain⟨⟨b',r',hp⟩,hpo⟩:=qhP h 8 s want h1;subst hp;split at he;case h_2=>cases he
  rename_i d av d' s1 v1 w1 b1 r1 hupd hdst hpath;simp only[List.cons.injEq,zbh.injEq]at hpath;obtain⟨⟨rfl,rfl,rfl,rfl⟩,rfl⟩:=hpath;split at he;case isFalse=>cases he
  rename_i hcond;obtain⟨hdd,hun,hnu,hpa⟩:=hcond;subst hdd;obtain⟨_,hm0,he⟩:=Q.yb he;have:=Q.yc he;subst this;have hms:=qoO _ hm0;have hdl:d<σ.length:=hd _ (zat.2 rfl);have hpd:∀q∈(s,(qt σ s).1,want,b')::r',q.1≠d:=fun q hq=>by
   have:=zaN.1 hpa q hq;simpa using this
  have hsd:s≠d:=hpd _ zai;by_cases hwant:Region.wanted o (yielded ops a.tmps)=true
  ·rw[if_pos hwant];have ht:=hw.1 hwant;obtain⟨k1,k2⟩:=hpo ht;have hc1:qcT f1.chk:=by
    intro x hx;have:=hc (!(qmR ((s,(qt σ s).1,want,b')::r'))||x) (zaS.2 ⟨x,hx,rfl⟩);rw[k2]at this;simpa using this
   have hd1:∀u∈f1.upd,u.s<σ.length:=by rw[hupd];intro u hu;simp at hu;rw[hu];exact hdl
   have hok:=qpV hE hF.fns hF.pins h ⟨hpc,k1⟩ h2 hd1 hc1;rw[hupd]at hok;refine hok K Q1 fun a' w' own0 hde hst0=>?_;have eA0:qt (qk σ [⟨d,true,av⟩]) d=((qt σ d).1+1,av):=qS σ ⟨d,true,av⟩ hdl;obtain⟨own',hst,_,_,_⟩:=hst0.freeze d;rw[eA0]at hst;generalize hτ:qX (qk σ [⟨d,true,av⟩]) ⟨d,false,av.freeze⟩=τ at hst;have hlen:τ.length=σ.length:=by rw[←hτ,qal,qO]
   have eA:qt τ d=((qt σ d).1+1,av.freeze):=by
    rw[←hτ,qS (qk σ [⟨d,true,av⟩]) ⟨d,false,av.freeze⟩ (by rw[qO];exact hdl),eA0];rfl
   have eA1:∀x,x≠d→qt τ x=qt σ x:=fun x hx=>by
    rw[←hτ,qu _ _ hx];exact qu σ ⟨d,true,av⟩ hx
   have eB:qt (qk σ [⟨d,true,.grd s (qt σ s).1 want av.freeze⟩]) d=((qt σ d).1+1,.grd s (qt σ s).1 want av.freeze):=qS σ ⟨d,true,_⟩ hdl;have eN:∀x,x≠d→qt (qk σ [⟨d,true,.grd s (qt σ s).1 want av.freeze⟩]) x=qt τ x:=fun x hx=>by
    rw[eA1 x hx];exact qu σ ⟨d,true,.grd s (qt σ s).1 want av.freeze⟩ hx
   have eV:∀x,(qt (qk σ [⟨d,true,.grd s (qt σ s).1 want av.freeze⟩]) x).1=(qt τ x).1:=fun x=>by
    by_cases hx:x=d
    ·subst hx;rw[eA,eB]
    ·rw[eN x hx]
   have hsure:a'.tmps.getD s undef=.bool want:=qiE hst 8 s want (qid 8 s want h1 fun q hq=>eA1 q.1 (hpd q hq)) k2;have hat:=hst.at_ d;rw[eA]at hat;have hbs:own' d=[]∧qax (sit C τ a'.tmps w' own') av.freeze (a'.tmps.getD d undef) []:=by
    refine⟨?_,hat.unowned hun⟩;generalize av.freeze=fv at hun hnu hat;cases fv with
    |undef=>cases hnu
    |own _ _ _=>cases hun
    |agg _=>cases hun
    |box _=>cases hun
    |tup _=>cases hun
    |mp _ _ _=>cases hun
    |itr _ _ _ _=>cases hun
    |hol _ _ _ _ _ _=>cases hun
    |bhl _ _ _ _=>cases hun
    |lsw _ _ _ _=>cases hun
    |_=>exact hat.1
   have kp:∀ {av':AV}{v:Value}{bs:List Nat},qax (sit C τ a'.tmps w' own') av' v bs→qax (sit C (qk σ [⟨d,true,.grd s (qt σ s).1 want av.freeze⟩]) a'.tmps w' own') av' v bs:=fun hr=>
    qax.keep (X:=sit C τ a'.tmps w' own') (X':=sit C (qk σ [⟨d,true,.grd s (qt σ s).1 want av.freeze⟩]) a'.tmps w' own') ⟨rfl,rfl⟩ (fun b hb hlt=>⟨hb,hlt,rfl⟩) (fun _ _ _=>rfl) (fun m _ hv=>⟨(eV m.1).symm.trans hv,rfl,fun b hb _=>⟨hb,rfl⟩⟩) hr
   refine hK a' w' own' hde ⟨by rw[hst.size,hlen,qO],hst.kept,hst.mine,hst.nodup,hst.apart,fun x hx=>hst.outside x (by rw[qO]at hx;rw[hlen];exact hx),fun x hx=>?_,fun x m hm=>?_⟩
   ·by_cases hxd:x=d
    ·subst hxd;rw[eB,hbs.1];exact⟨rfl,fun _=>⟨fun _=>kp hbs.2,fun hn=>absurd hsure hn⟩⟩
    ·rw[eN x hxd];exact kp (hst.rep x (by rw[qO]at hx;rw[hlen];exact hx))
   ·rw[eV];by_cases hxd:x=d
    ·subst hxd;rw[eB]at hm;rcases zam.1 hm with rfl|hm
     ·rw[eA1 s hsd];exact zay _
     ·exact hst.wf x m (by rw[eA];exact hm)
    ·rw[eN x hxd]at hm;exact hst.wf x m hm
  ·rw[if_neg hwant];have hnt:¬a.tmps.getD s undef=.bool want:=fun e=>hwant (hw.2 e);have hdu:qbp o (.grd s (qt σ s).1 want av.freeze)=[⟨d,true,.grd s (qt σ s).1 want av.freeze⟩]:=by unfold qbp;rw[hdst]
   obtain⟨own',hst⟩:=h.dst0 (o:=o) (av:= .grd s (qt σ s).1 want av.freeze) (v:=undef) (by rw[hdu];exact hd) ⟨rfl,fun _=>⟨fun e=>absurd e hnt,fun _=>rfl⟩⟩ (fun m hm=>by
    rcases zam.1 hm with rfl|hm
    ·exact zay _
    ·exact hms m hm)
   rw[hdu]at hst;exact hK _ _ own' (qfG o a _) hst
end
end Go.Vi
namespace Go.Vi
open Go.RowKit
section
variable {C:Ctx}{E:Env}{σ τ:St}{tm:Array Value}{a:Act}{w w':World}{own:Nat→List Nat}{o:Oper}{p:qg3} [Tabbed E C]
theorem qac.retag (h:qac C σ tm w own) (hl:τ.length=σ.length) (B:Nat→Prop) (hsame:∀s,¬B s→qt τ s=qt σ s)
  (hB:∀s,B s→(qt τ s).2.mentions=[]∧∀v,qax (sit C σ tm w own) (qt σ s).2 v (own s)→qax (sit C σ tm w own) (qt τ s).2 v (own s))
  (hv:∀s m,¬B s→m∈(qt σ s).2.mentions→B m.1→m.2<(qt τ m.1).1):qac C τ tm w own:=by
 refine⟨by rw[hl];exact h.size,h.kept,h.mine,h.nodup,h.apart,fun s hs=>h.outside s (by omega),fun s hs=>?_,fun s m hm=>?_⟩
 ·have hr:=h.rep s (by omega);by_cases hb:B s
  ·obtain⟨k1,k2⟩:=hB s hb;exact qax.keep (X:=sit C σ tm w own) (X':=sit C τ tm w own) ⟨rfl,rfl⟩ (fun b hb hlt=>⟨hb,hlt,rfl⟩) (fun _ _ _=>rfl) (fun m hm=>by rw[k1]at hm;cases hm) (k2 _ hr)
  ·rw[hsame s hb];refine qax.keep (X:=sit C σ tm w own) (X':=sit C τ tm w own) ⟨rfl,rfl⟩ (fun b hb hlt=>⟨hb,hlt,rfl⟩) (fun _ _ _=>rfl) (fun m hm hv'=>?_) hr;have hv':(qt τ m.1).1=m.2:=hv';by_cases hbm:B m.1
   ·have:=hv s m hb hm hbm;omega
   ·rw[hsame m.1 hbm]at hv';exact⟨hv',rfl,fun b hb _=>⟨hb,rfl⟩⟩
 ·by_cases hb:B s
  ·rw[(hB s hb).1]at hm;cases hm
  ·rw[hsame s hb]at hm;by_cases hbm:B m.1
   ·exact Nat.le_of_lt (hv s m hb hm hbm)
   ·rw[hsame m.1 hbm];exact h.wf s m hm
theorem qgJ {F:Nat→Prop}(b:Bool): {x y r:BC}→{cs:List Value}→{bs:List Nat}→qgM.joinB b x y=some r→qaD w F (bif b then x else y) cs bs→qaD w F r cs bs
 |.val t x,.val u y,r,cs,bs,hj,h=>by
  simp only[qgM.joinB]at hj;split at hj
  ·rename_i z hz;injection hj with hj;subst hj;obtain⟨e1,e2⟩:=Ty.ye hz;subst e1;have e2:y=z:=e2;subst e2;cases b<;>exact h
  ·cases hj
 |.own et e xs,.own et' e' ys,r,cs,bs,hj,h=>by
  simp only[qgM.joinB]at hj;split at hj
  ·rename_i het;subst het;split at hj
   ·rename_i z hz;injection hj with hj;subst hj;obtain⟨e1,e2⟩:=Ty.ye hz;injection e1 with e1;subst e1;have e2:ys=z:=e2;subst e2;cases b<;>exact h
   ·cases hj
  ·cases hj
 |.pair c d,.pair c' d',r,cs,bs,hj,h=>by
  simp only[qgM.joinB]at hj;split at hj
  ·rename_i r1 r2 h1 h2;split at hj
   ·injection hj with hj;subst hj;cases b
    ·obtain⟨c1,c2,b1,b2,k1,k2,k3,k4⟩:=h;exact⟨c1,c2,b1,b2,k1,k2,qgJ false h1 k3,qgJ false h2 k4⟩
    ·obtain⟨c1,c2,b1,b2,k1,k2,k3,k4⟩:=h;exact⟨c1,c2,b1,b2,k1,k2,qgJ true h1 k3,qgJ true h2 k4⟩
   ·cases hj
  ·cases hj
 |.hole n,.hole m,r,cs,bs,hj,h=>by
  simp only[qgM.joinB]at hj;split at hj
  ·rename_i hnm;injection hj with hj;subst hj;subst hnm;cases b<;>exact h
  ·cases hj
 |.val _ _,.own _ _ _,_,_,_,hj,_=>by cases hj
 |.val _ _,.pair _ _,_,_,_,hj,_=>by cases hj
 |.val _ _,.hole _,_,_,_,hj,_=>by cases hj
 |.own _ _ _,.val _ _,_,_,_,hj,_=>by cases hj
 |.own _ _ _,.pair _ _,_,_,_,hj,_=>by cases hj
 |.own _ _ _,.hole _,_,_,_,hj,_=>by cases hj
 |.pair _ _,.val _ _,_,_,_,hj,_=>by cases hj
 |.pair _ _,.own _ _ _,_,_,_,hj,_=>by cases hj
 |.pair _ _,.hole _,_,_,_,hj,_=>by cases hj
 |.hole _,.val _ _,_,_,_,hj,_=>by cases hj
 |.hole _,.own _ _ _,_,_,_,hj,_=>by cases hj
 |.hole _,.pair _ _,_,_,_,hj,_=>by cases hj
theorem qno {X:Sit}(b:Bool) {x y:AV}{v:Value}{bs:List Nat}(h:qax X (bif b then x else y) v bs):qax X (qgM b x y) v bs∧(qgM b x y).mentions=[]:=by
 unfold qgM;split
 ·rename_i t x u y;split
  ·rename_i z hz;obtain⟨e1,e2⟩:=Ty.ye hz;subst e1;have e2:y=z:=e2;subst e2;refine⟨?_,rfl⟩;cases b<;>exact h
  ·exact⟨trivial,rfl⟩
 ·rename_i et e xs et' e' ys;split
  ·rename_i het;subst het;split
   ·rename_i z hz;obtain⟨e1,e2⟩:=Ty.ye hz;injection e1 with e1;subst e1;have e2:ys=z:=e2;subst e2;refine⟨?_,rfl⟩;cases b<;>exact h
   ·exact⟨trivial,rfl⟩
  ·exact⟨trivial,rfl⟩
 ·rename_i c d;split
  ·rename_i r hr;refine⟨?_,rfl⟩;cases b
   ·obtain⟨b0,cs,bs',te,k1,k2,k3,k4⟩:=h;exact⟨b0,cs,bs',te,k1,k2,qgJ false hr k3,k4⟩
   ·obtain⟨b0,cs,bs',te,k1,k2,k3,k4⟩:=h;exact⟨b0,cs,bs',te,k1,k2,qgJ true hr k3,k4⟩
  ·exact⟨trivial,rfl⟩
 ·rename_i k t xs k' t' ys;split
  ·rename_i het;obtain⟨e1,e2⟩:=het;subst e1;subst e2;refine⟨?_,rfl⟩;cases b<;>exact h
  ·exact⟨trivial,rfl⟩
 ·rename_i et e xs φ et' e' ys ψ;split
  ·rename_i het;obtain⟨e1,e2⟩:=het;subst e1;subst e2;refine⟨?_,rfl⟩;cases b<;>exact⟨h.1,h.2.1,fun ψ hψ=>by cases hψ⟩
  ·exact⟨trivial,rfl⟩
 ·rename_i et e et' e' ys;split
  ·rename_i het;subst het;split
   ·rename_i z hz;obtain⟨e1,e2⟩:=Ty.ye hz;injection e1 with e1;subst e1;have e2:ys=z:=e2;subst e2;refine⟨?_,rfl⟩;cases b
    ·exact h
    ·obtain⟨rfl,rfl⟩:=h;exact q8.nil_ _ _ _ _
   ·exact⟨trivial,rfl⟩
  ·exact⟨trivial,rfl⟩
 ·rename_i et e xs et' e';split
  ·rename_i het;obtain⟨rfl,rfl⟩:=het;refine⟨?_,rfl⟩;cases b
   ·obtain⟨rfl,rfl⟩:=h;exact q8.nil_ _ _ _ _
   ·exact h
  ·exact⟨trivial,rfl⟩
 ·rename_i et e et' e';split
  ·rename_i het;obtain⟨rfl,rfl⟩:=het;refine⟨?_,rfl⟩;cases b<;>exact h
  ·exact⟨trivial,rfl⟩
 ·rename_i e xs e' ys;split
  ·rename_i z hz;obtain⟨e1,e2⟩:=Ty.ye hz;injection e1 with e1;subst e1;have e2:ys=z:=e2;subst e2;refine⟨?_,rfl⟩;cases b<;>exact h
  ·exact⟨trivial,rfl⟩
 ·rename_i e xs e' ys;split
  ·rename_i z hz;obtain⟨e1,e2⟩:=Ty.ye hz;injection e1 with e1;subst e1;have e2:ys=z:=e2;subst e2;refine⟨?_,rfl⟩;cases b
   ·exact h
   ·exact⟨h.1,h.2.1⟩
  ·exact⟨trivial,rfl⟩
 ·rename_i e xs e' ys;split
  ·rename_i z hz;obtain⟨e1,e2⟩:=Ty.ye hz;injection e1 with e1;subst e1;have e2:ys=z:=e2;subst e2;refine⟨?_,rfl⟩;cases b
   ·exact⟨h.1,h.2.1⟩
   ·exact h
  ·exact⟨trivial,rfl⟩
 ·exact⟨trivial,rfl⟩
theorem BC.yn {F:Nat→Prop}:(t:Ty)→{c:BC}→{x:t.den}→{cs:List Value}→{bs:List Nat}→c.toVal t=some x→qaD w F c cs bs→qaD w F (.val t x) cs bs
 |t,.val u y,x,cs,bs,hs,h=>by
  have hs:Ty.as (t:=u) t y=some x:=by cases t<;>exact hs
  exact⟨h.1,h.2.as hs⟩
 |.pair a b,.pair c d,x,cs,bs,hs,h=>by
  simp only[BC.toVal]at hs;split at hs
  ·rename_i y z h1 h2;injection hs with hs;subst hs;obtain⟨c1,c2,b1,b2,k1,k2,k3,k4⟩:=h;have r1:=BC.yn a h1 k3;have r2:=BC.yn b h2 k4;exact⟨by rw[k2,r1.1,r2.1];rfl,c1,c2,k1,r1.2,r2.2⟩
  ·cases hs
 |t,.own _ _ _,x,cs,bs,hs,h=>by cases t<;>cases hs
 |t,.hole _,x,cs,bs,hs,h=>by cases t<;>cases hs
 |.int _,.pair _ _,x,cs,bs,hs,h=>by cases hs
 |.bool,.pair _ _,x,cs,bs,hs,h=>by cases hs
 |.str,.pair _ _,x,cs,bs,hs,h=>by cases hs
 |.unit,.pair _ _,x,cs,bs,hs,h=>by cases hs
 |.slice _,.pair _ _,x,cs,bs,hs,h=>by cases hs
 |.arr _ _,.pair _ _,x,cs,bs,hs,h=>by cases hs
theorem BC.toShape_rep {F:Nat→Prop}:(s:qcv)→{c:BC}→{x:s.den}→{cs:List Value}→{bs:List Nat}→c.toShape s=some x→qaD w F c cs bs→qaD w F (s.un x) cs bs
 |.val t,c,x,cs,bs,hs,h=>by
  exact BC.yn t hs h
 |.own et e,.own et' e' xs,x,cs,bs,hs,h=>by
  simp only[BC.toShape]at hs;split at hs
  ·rename_i het;subst het;obtain⟨e1,e2⟩:=Ty.ye hs;injection e1 with e1;subst e1;have e2:xs=x:=e2;subst e2;exact h
  ·cases hs
 |.pair a b,.pair c d,x,cs,bs,hs,h=>by
  simp only[BC.toShape]at hs;split at hs
  ·rename_i y z h1 h2;injection hs with hs;subst hs;obtain⟨c1,c2,b1,b2,k1,k2,k3,k4⟩:=h;exact⟨c1,c2,b1,b2,k1,k2,BC.toShape_rep a h1 k3,BC.toShape_rep b h2 k4⟩
  ·cases hs
 |.hole n,.hole m,x,cs,bs,hs,h=>by
  simp only[BC.toShape]at hs;split at hs
  ·rename_i hnm;subst hnm;exact h
  ·cases hs
 |.own _ _,.val _ _,_,_,_,hs,_=>by cases hs
 |.own _ _,.pair _ _,_,_,_,hs,_=>by cases hs
 |.own _ _,.hole _,_,_,_,hs,_=>by cases hs
 |.pair _ _,.val _ _,_,_,_,hs,_=>by cases hs
 |.pair _ _,.own _ _ _,_,_,_,hs,_=>by cases hs
 |.pair _ _,.hole _,_,_,_,hs,_=>by cases hs
 |.hole _,.val _ _,_,_,_,hs,_=>by cases hs
 |.hole _,.own _ _ _,_,_,_,hs,_=>by cases hs
 |.hole _,.pair _ _,_,_,_,hs,_=>by cases hs
theorem AV.toShape_rep {X:Sit}(s:qeI) {av:AV}{x:s.den}{v:Value}{bs:List Nat}(hs:av.toShape s=some x) (h:qax X av v bs):qax X (s.un x) v bs∧(s.un x).mentions=[]:=by
 cases s with
 |val t=>
  cases av with
  |val u y=>exact⟨⟨h.1,h.2.as hs⟩,rfl⟩
  |_=>cases hs
 |own et e=>
  cases av with
  |own et' e' xs=>
   simp only[AV.toShape]at hs;split at hs
   ·rename_i het;subst het;obtain⟨e1,e2⟩:=Ty.ye hs;injection e1 with e1;subst e1;have e2:xs=x:=e2;subst e2;exact⟨h,rfl⟩
   ·cases hs
  |_=>cases hs
 |box b=>
  cases av with
  |box c=>
   obtain⟨b0,cs,bs',te,k1,k2,k3,k4⟩:=h;exact⟨⟨b0,cs,bs',te,k1,k2,BC.toShape_rep b hs k3,k4⟩,rfl⟩
  |_=>cases hs
 |mp k t=>
  cases av with
  |mp k' t' xs=>
   simp only[AV.toShape]at hs;split at hs
   ·rename_i het;obtain⟨e1,e2⟩:=het;subst e1;subst e2;injection hs with hs;subst hs;exact⟨h,rfl⟩
   ·cases hs
  |_=>cases hs
 |lsw et e=>
  cases av with
  |lsw et' e' xs φ=>
   simp only[AV.toShape]at hs;split at hs
   ·rename_i het;obtain⟨e1,e2⟩:=het;subst e1;subst e2;injection hs with hs;subst hs;exact⟨⟨h.1,h.2.1,fun ψ hψ=>by cases hψ⟩,rfl⟩
   ·cases hs
  |_=>cases hs
theorem qig (σ:St) (s:Nat) (e:Ent) (x:Nat):qt (σ.set s e) x=if x=s∧s<σ.length then e else qt σ x:=by
 unfold qt;simp only[zaz,List.getElem?_set];by_cases hx:s=x
 ·subst hx;by_cases hl:s<σ.length
  ·simp[hl]
  ·simp[hl]
 ·simp[hx];intro e1;exact absurd e1.symm hx
theorem qlE:(wr:List Nat)→(σ:St)→(wr.foldl (fun σ s=>σ.set s ((qt σ s).1+1,.undef)) σ).length=σ.length∧
  ∀x,(x∈wr∧x<σ.length→(qt σ x).1<(qt (wr.foldl (fun σ s=>σ.set s ((qt σ s).1+1,.undef)) σ) x).1∧(qt (wr.foldl (fun σ s=>σ.set s ((qt σ s).1+1,.undef)) σ) x).2=.undef)∧
   (¬(x∈wr∧x<σ.length)→qt (wr.foldl (fun σ s=>σ.set s ((qt σ s).1+1,.undef)) σ) x=qt σ x)
 |[],σ=>⟨rfl,fun x=>⟨fun h=>(by cases h.1),fun _=>rfl⟩⟩
 |s::wr,σ=>by
  obtain⟨h1,h2⟩:=qlE wr (σ.set s ((qt σ s).1+1,.undef));rw[List.foldl_cons];refine⟨by rw[h1];simp,fun x=>?_⟩;obtain⟨k1,k2⟩:=h2 x;rw[List.length_set]at k1 k2;by_cases hx:x∈wr∧x<σ.length
  ·refine⟨fun _=>?_,fun hn=>absurd ⟨zae _ hx.1,hx.2⟩ hn⟩;obtain⟨g1,g2⟩:=k1 hx;refine⟨Nat.lt_of_le_of_lt ?_ g1,g2⟩;rw[qig];split
   ·rename_i h;rw[h.1];exact Nat.le_succ _
   ·exact zay _
  ·rw[k2 hx];rw[qig];by_cases hs:x=s∧s<σ.length
   ·rw[if_pos hs];refine⟨fun _=>⟨by rw[hs.1];exact zbb _,rfl⟩,fun hn=>absurd ⟨by rw[hs.1];exact zai,by rw[hs.1];exact hs.2⟩ hn⟩
   ·rw[if_neg hs];refine⟨fun hn=>?_,fun _=>rfl⟩;rcases zam.1 hn.1 with rfl|hm
    ·exact absurd ⟨rfl,hn.2⟩ hs
    ·exact absurd ⟨hm,hn.2⟩ hx
theorem qmw:(l:List (Nat×qeI))→(x:liveDen l)→(σ:St)→(l.map (·.1)).Nodup→(qgr l x σ).length=σ.length∧(∀s,s∉l.map (·.1)→qt (qgr l x σ) s=qt σ s)∧
  ∀(τ:St),qm3 l τ=some x→∀s,s∈l.map (·.1)→s<σ.length→(qt (qgr l x σ) s).1=(qt σ s).1∧∀X v bs,qax X (qt τ s).2 v bs→qax X (qt (qgr l x σ) s).2 v bs∧(qt (qgr l x σ) s).2.mentions=[]
 |[],_,σ,_=>⟨rfl,fun _ _=>rfl,fun _ _ s hs=>by cases hs⟩
 |p::r,x,σ,hn=>by
  have hn:=zax.1 hn;obtain⟨h1,h2,h3⟩:=qmw r x.2 (σ.set p.1 ((qt σ p.1).1,p.2.un x.1)) hn.2;refine⟨by simp only[qgr];rw[h1];simp,fun s hs=>?_,fun τ hp s hs hl=>?_⟩
  ·have hs':s≠p.1∧s∉r.map (·.1):=by simpa using hs
   simp only[qgr];rw[h2 s hs'.2,qig,if_neg (fun h=>hs'.1 h.1)]
  ·simp only[qm3]at hp;split at hp;case h_2=>cases hp
   rename_i y z e1 e2;injection hp with hp;subst hp;simp only[qgr];by_cases hsp:s=p.1
   ·subst hsp;rw[h2 _ hn.1,qig,if_pos ⟨rfl,hl⟩];exact⟨rfl,fun X v bs h=>AV.toShape_rep p.2 e1 h⟩
   ·have hsr:s∈r.map (·.1):=by
     rcases zam.1 hs with e|e
     ·exact absurd e hsp
     ·exact e
    obtain⟨g1,g2⟩:=h3 τ e2 s hsr (by rw[List.length_set];exact hl);rw[qig,if_neg (fun h=>hsp h.1)]at g1;exact⟨g1,g2⟩
def Fr (wr:List Nat) (σ σ':St):Prop:=σ'.length=σ.length∧∀s,s∉wr→qt σ' s=qt σ s
theorem qmr {A:qib}(hlive:∀q∈A.live,q.1∈A.wr) (hn:(A.live.map (·.1)).Nodup) (x:liveDen A.live):Fr A.wr σ (qdw A σ x):=by
 obtain⟨h1,h2⟩:=qlE A.wr σ;obtain⟨k1,k2,_⟩:=qmw A.live x (A.wr.foldl (fun σ s=>σ.set s ((qt σ s).1+1,.undef)) σ) hn;refine⟨k1.trans h1,fun s hs=>?_⟩;rw[qdw,k2 s fun hm=>by
  obtain⟨q,hq,e⟩:=zaS.1 hm;exact hs (e▸hlive q hq)]
 exact(h2 s).2 fun h=>hs h.1
theorem qac.head (h:qac C τ tm w own) {A:qib}(hlive:∀q∈A.live,q.1∈A.wr) (hn:(A.live.map (·.1)).Nodup) (hwf:∀s,∀m∈(qt σ s).2.mentions,m.2≤(qt σ m.1).1) (hfr:Fr A.wr σ τ) {x:liveDen A.live}(hx:qm3 A.live τ=some x):
  qac C (qdw A σ x) tm w own:=by
 obtain⟨h1,h2⟩:=qlE A.wr σ;obtain⟨k1,k2,k3⟩:=qmw A.live x (A.wr.foldl (fun σ s=>σ.set s ((qt σ s).1+1,.undef)) σ) hn;have hver:∀s,s∈A.wr→s<σ.length→(qt σ s).1<(qt (qdw A σ x) s).1:=by
  intro s hs hl;by_cases hm:s∈A.live.map (·.1)
  ·rw[qdw,(k3 τ hx s hm (by rw[h1];exact hl)).1];exact((h2 s).1 ⟨hs,hl⟩).1
  ·rw[qdw,k2 s hm];exact((h2 s).1 ⟨hs,hl⟩).1
 refine h.retag ((k1.trans h1).trans hfr.1.symm) (fun s=>s∈A.wr∧s<σ.length) (fun s hs=>?_) (fun s hs=>?_) (fun s m hs hm hb=>?_)
 ·by_cases hw:s∈A.wr
  ·have hl:¬s<σ.length:=fun hl=>hs ⟨hw,hl⟩;have e1:qt (qdw A σ x) s=(0,.undef):=by simp[qt,List.getD,zaD (show(qdw A σ x).length≤s by rw[qdw,k1,h1];omega)]
   have e2:qt τ s=(0,.undef):=by simp[qt,List.getD,zaD (show τ.length≤s by rw[hfr.1];omega)]
   rw[e1,e2]
  ·rw[(qmr hlive hn x).2 s hw,hfr.2 s hw]
 ·by_cases hm:s∈A.live.map (·.1)
  ·obtain⟨_,g⟩:=k3 τ hx s hm (by rw[h1];exact hs.2);refine⟨?_,fun v hv=>(g _ v _ hv).1⟩;have hat:=h.at_ s;exact(g _ _ _ hat).2
  ·rw[qdw,k2 s hm,((h2 s).1 hs).2];exact⟨rfl,fun _ _=>trivial⟩
 ·have e:qt τ s=qt σ s:=by
   by_cases hw:s∈A.wr
   ·have hl:¬s<σ.length:=fun hl=>hs ⟨hw,hl⟩;have e1:qt σ s=(0,.undef):=by simp[qt,List.getD,zaD (show σ.length≤s by omega)]
    have e2:qt τ s=(0,.undef):=by simp[qt,List.getD,zaD (show τ.length≤s by rw[hfr.1];omega)]
    rw[e1,e2]
   ·exact hfr.2 s hw
  rw[e]at hm;exact Nat.lt_of_le_of_lt (hwf s m hm) (hver m.1 hb.1 hb.2)
end
end Go.Vi
namespace Go.Vi
open Go.RowKit
def qbM (S:Nat→Bool):Nat→List qcL→St→St
 |_,[],σ=>σ
 |i,f::r,σ=>qbM S (i+1) r (if S i then qk σ f.us else σ)
def qbU (l:List qcL) (σ:St):St:=l.foldl (fun σ f=>qk σ f.us) σ
theorem qaX (S:Nat→Bool):(l:List qcL)→(i:Nat)→(σ:St)→(qbM S i l σ).length=σ.length
 |[],_,_=>rfl
 |f::r,i,σ=>by
  simp only[qbM];rw[qaX S r];split
  ·rw[qO]
  ·rfl
theorem qo2 {σ τ:St}{u:U}{s:Nat}(hl:σ.length=τ.length) (h:qt σ s=qt τ s):qt (qX σ u) s=qt (qX τ u) s:=by
 by_cases hs:s=u.s
 ·subst hs;by_cases hlt:u.s<σ.length
  ·rw[qS σ u hlt,qS τ u (by omega),h]
  ·have e1:qX σ u=σ:=by simp only[qX];exact List.set_eq_of_length_le (by omega)
   have e2:qX τ u=τ:=by simp only[qX];exact List.set_eq_of_length_le (by omega)
   rw[e1,e2,h]
 ·rw[qu _ _ hs,qu _ _ hs,h]
theorem qhf:(us:List U)→{σ τ:St}→{s:Nat}→σ.length=τ.length→qt σ s=qt τ s→qt (qk σ us) s=qt (qk τ us) s
 |[],_,_,_,_,h=>h
 |u::us,σ,τ,s,hl,h=>qhf us (σ:=qX σ u) (τ:=qX τ u) (by rw[qal,qal,hl]) (qo2 hl h)
theorem qhc:(us:List U)→{σ:St}→{s:Nat}→s∉us.map (·.s)→qt (qk σ us) s=qt σ s
 |[],_,_,_=>rfl
 |u::us,σ,s,h=>by
  simp only[zaZ,zam,not_or]at h;exact(qhc us (σ:=qX σ u) h.2).trans (qu _ _ h.1)
theorem qcO {S S':Nat→Bool}{s:Nat}:(l:List qcL)→(i:Nat)→{σ τ:St}→σ.length=τ.length→qt σ s=qt τ s→(∀k f,l[k]? =some f→s∈f.wr→S (i+k)=S' (i+k))→qt (qbM S i l σ) s=qt (qbM S' i l τ) s
 |[],_,_,_,_,h,_=>h
 |f::r,i,σ,τ,hl,h,hS=>by
  simp only[qbM];refine qcO r (i+1) ?_ ?_ fun k f' hk hs=>by
   have:=hS (k+1) f' (by simpa using hk) hs;rwa [show i+(k+1)=i+1+k by omega]at this
  ·split<;>split<;>simp only[qO,hl]
  ·by_cases hs:s∈f.wr
   ·have:=hS 0 f rfl hs;rw[zbf]at this;rw[←this];split
    ·exact qhf _ hl h
    ·exact h
   ·have n1:∀ρ:St,qt (qk ρ f.us) s=qt ρ s:=fun ρ=>qhc f.us hs;split<;>split<;>simp only[n1,h]
theorem qj1 {σ τ:St}(hl:σ.length=τ.length) (h:∀s,qt σ s=qt τ s):σ=τ:=by
 apply List.ext_getElem?;intro s;by_cases hs:s<σ.length
 ·have:=h s;simp only[qt,zaz,zaa hs,zaa (show s<τ.length by omega),Option.getD_some]at this;rw[zaa hs,zaa (by omega),this]
 ·rw[zaD (by omega),zaD (by omega)]
theorem qg4:(l:List qcL)→(i:Nat)→(σ:St)→qbM (fun _=>false) i l σ=σ
 |[],_,_=>rfl
 |f::r,i,σ=>by simp only[qbM,za0,if_false];exact qg4 r (i+1) σ
theorem qcl:(l:List qcL)→(i m:Nat)→(σ:St)→qbM (fun k=>decide (k<i+m)) i l σ=qbU (l.take m) σ
 |[],i,m,σ=>by simp[qbM,qbU]
 |f::r,i,0,σ=>by
  have:qbM (fun k=>decide (k<i+0)) i (f::r) σ=qbM (fun _=>false) i (f::r) σ:=by
   apply qj1
   ·rw[qaX,qaX]
   ·intro s;exact qcO _ _ rfl rfl fun k f _ _=>by simp
  rw[this,qg4];rfl
 |f::r,i,m+1,σ=>by
  simp only[qbM];rw[if_pos (by simp)];have:=qcl r (i+1) m (qk σ f.us);rw[show i+1+m=i+(m+1) by omega]at this;rw[this];rfl
theorem Q.run_congr {α:Type}{lk lk':Nat→Ent}:(q:Q α)→(∀s∈q.log lk,lk' s=lk s)→q.run lk'=q.run lk
 |.ret _,_=>rfl
 |.fail,_=>rfl
 |.get s k,h=>by
  have h0:=h s zai;simp only[Q.run,h0];exact Q.run_congr (k (lk s)) fun s' hs'=>h s' (zae _ hs')
def qtA (E:Env) (ops:Array Oper) (σ:St) (l:List Oper) (fl:List qcL) (c:List Bool):Prop:=
 fl.length=l.length∧∀k o ft,l[k]? =some o→fl[k]? =some ft→∃g f,qb3 ops o=some g∧(qdv E g o).run (qt (qbU (fl.take k) σ))=some f∧ft= { rd:=(qdv E g o).log (qt (qbU (fl.take k) σ)),us:=f.upd } ∧(∀u∈f.upd,u.s<σ.length)∧∀b∈f.chk,b∈c
theorem qk5 {E:Env}{wr:List Nat}{ops:Array Oper}:(l:List Oper)→{σ σ':St}→{c c':List Bool}→{fs fs':List qcL}→qbZ E wr ops l σ c fs=some (σ',c',fs')→
  ∃fl,fs'=fl.reverse++fs∧qtA E ops σ l fl c'∧σ'=qbU fl σ∧∀b∈c,b∈c'
 |[],σ,σ',c,c',fs,fs',he=>by
  simp only[qbZ,zbg.injEq,zbh.injEq]at he;obtain⟨rfl,rfl,rfl⟩:=he;exact⟨[],rfl,⟨rfl,fun k o ft h=>by simp at h⟩,rfl,fun b h=>h⟩
 |o::r,σ,σ',c,c',fs,fs',he=>by
  simp only[qbZ]at he;split at he
  ·cases he
  rename_i g hg;split at he
  ·cases he
  rename_i f hf;split at he;case isFalse=>cases he
  rename_i hu;obtain⟨fl,h1,⟨h2,h3⟩,h4,h5⟩:=qk5 r he;refine⟨{ rd:=(qdv E g o).log (qt σ),us:=f.upd } ::fl,by rw[h1];simp,⟨by simp[h2],fun k o' ft hk hft=>?_⟩,by rw[h4];rfl,fun b hb=>h5 b (zac _ hb)⟩;cases k with
  |zero=>
   simp at hk hft;subst hk;subst hft;refine⟨g,f,hg,hf,rfl,fun u hm=>?_,fun b hb=>h5 b (zab _ hb)⟩;have:=zaN.1 hu u hm;simp at this;exact this.2
  |succ k=>
   obtain⟨g',f',k1,k2,k3,k4,k5⟩:=h3 k o' ft (by simpa using hk) (by simpa using hft);exact⟨g',f',k1,k2,k3,fun u hm=>by have:=k4 u hm;rwa [qO]at this,k5⟩
theorem qkU {ms:List Nat}{j:Nat}:(es:List Nat)→(m:Nat)→(es.foldl (fun m j=>m|||(1 <<< j)|||ms.getD j 0) m).testBit j=true→m.testBit j=true∨j∈es∨∃k∈es,(ms.getD k 0).testBit j=true
 |[],m,h=>.inl h
 |e::es,m,h=>by
  rcases qkU es _ h with h|h|⟨k,hk,h⟩
  ·simp only[Nat.testBit_or,Bool.or_eq_true]at h;rcases h with(h|h)|h
   ·exact .inl h
   ·refine .inr (.inl ?_);rw[Nat.one_shiftLeft,Nat.testBit_two_pow]at h;have:e=j:=by simpa using h
    rw[this];exact zai
   ·exact .inr (.inr ⟨e,zai,h⟩)
  ·exact .inr (.inl (zae _ h))
  ·exact .inr (.inr ⟨k,zae _ hk,h⟩)
theorem qnn {m:Nat}{f:qcL}:(l:List qcL)→(j:Nat)→qon m f j l=true→∀k g,l[k]? =some g→m.testBit (j+k)=true∨qfJ f g=true
 |[],_,_,k,g,h=>by simp at h
 |x::r,j,hp,k,g,h=>by
  simp only[qon,zad,Bool.or_eq_true]at hp;cases k with
  |zero=>simp at h;subst h;exact hp.1
  |succ k=>
   have:=qnn r (j+1) hp.2 k g (by simpa using h);rwa [show j+1+k=j+(k+1) by omega]at this
theorem qo5:(os:List Oper)→(fs:List qcL)→(ms:List Nat)→(done:List qcL)→ms.length=done.length→qf7 os fs ms done=true→
  ∃M:List Nat,M.length=os.length∧fs.length=os.length∧∀k o f,os[k]? =some o→fs[k]? =some f→(∀j∈qbP o,j<ms.length+k)∧(ms++M).getD (ms.length+k) 0=qh3 ((ms++M).take (ms.length+k)) (qbP o)∧
   ∀j g,j<ms.length+k→(done++fs)[j]? =some g→((ms++M).getD (ms.length+k) 0).testBit j=true∨qfJ f g=true
 |[],[],_,_,_,_=>⟨[],rfl,rfl,fun k o f h=>by simp at h⟩
 |o::os,f::fs,ms,done,hl,h=>by
  simp only[qf7,zad]at h;obtain⟨h1,h2,h3⟩:=h;obtain⟨M,k1,k2,k3⟩:=qo5 os fs _ _ (by simp[hl]) h3;refine⟨qh3 ms (qbP o)::M,by simp[k1],by simp[k2],fun k o' f' ho hf=>?_⟩;have e1:ms++qh3 ms (qbP o)::M=(ms++[qh3 ms (qbP o)])++M:=by simp
  have e2:done++f::fs=(done++[f])++fs:=by simp
  cases k with
  |zero=>
   simp at ho hf;subst ho;subst hf;refine⟨fun j hj=>by have:=zaN.1 h1 j hj;simpa using this,?_,fun j g hj hg=>?_⟩
   ·rw[zbf,List.take_left' rfl];simp[List.getD]
   ·rw[zbf]at hj⊢
    have hg':done[j]? =some g:=by rwa [zaP (by omega)]at hg
    have:=qnn done 0 h2 j g hg';rw[zaM]at this;have e:(ms++qh3 ms (qbP o)::M).getD ms.length 0=qh3 ms (qbP o):=by simp[List.getD]
    rw[e];exact this
  |succ k=>
   obtain⟨q1,q2,q3⟩:=k3 k o' f' (by simpa using ho) (by simpa using hf);have e3:(ms++[qh3 ms (qbP o)]).length+k=ms.length+(k+1):=by simp;omega
   rw[e3]at q1 q2 q3;rw[e1,e2];exact⟨q1,q2,q3⟩
 |[],_::_,_,_,_,h=>by cases h
 |_::_,[],_,_,_,h=>by cases h
def qkj (ops:Array Oper) (S:Nat→Bool):Prop:=∀i o,ops[i]? =some o→S i=true→∀j∈qbP o,S j=true
theorem qkp {ops:Array Oper}{fl:List qcL}(h:qf7 ops.toList fl [] []=true):fl.length=ops.size∧∃M:List Nat,∀k o f,ops[k]? =some o→fl[k]? =some f→(∀j∈qbP o,j<k)∧M.getD k 0=qh3 (M.take k) (qbP o)∧∀j g,j<k→fl[j]? =some g→(M.getD k 0).testBit j=true∨qfJ f g=true:=by
 obtain⟨M,h1,h2,h3⟩:=qo5 ops.toList fl [] [] rfl h;refine⟨by simpa using h2,M,fun k o f ho hf=>?_⟩;have:=h3 k o f (by simpa using ho) hf;simpa using this
theorem qi4 {ops:Array Oper}{fl:List qcL}{M:List Nat}(hlen:fl.length=ops.size) (hM:∀k o f,ops[k]? =some o→fl[k]? =some f→(∀j∈qbP o,j<k)∧M.getD k 0=qh3 (M.take k) (qbP o)∧∀j g,j<k→fl[j]? =some g→(M.getD k 0).testBit j=true∨qfJ f g=true)
  {S:Nat→Bool}(hS:qkj ops S):∀(n k:Nat) (o:Oper),k<n→ops[k]? =some o→(∀j∈qbP o,S j=true)→∀j,(M.getD k 0).testBit j=true→S j=true
 |0,k,o,h,_,_,_,_=>by omega
 |n+1,k,o,hk,ho,he,j,hj=>by
  have hks:k<ops.size:=(zav.1 ho).1;obtain⟨q1,q2,_⟩:=hM k o _ ho (zaa (by omega));rw[q2]at hj;rcases qkU _ _ hj with h|h|⟨k',hk',h⟩
  ·simp at h
  ·exact he j h
  ·have hlt:=q1 k' hk';have ho':ops[k']? =some ops[k']:=zaF (by omega);have e:(M.take k).getD k' 0=M.getD k' 0:=by
    simp only[zaz,zal,if_pos hlt]
   rw[e]at h;exact qi4 hlen hM hS n k' _ (by omega) ho' (hS k' _ ho' (he k' hk')) j h
theorem qre {f g:qcL}(h:qfJ f g=true) {s:Nat}:(s∈f.wr→s∉g.rd∧s∉g.wr)∧(s∈g.wr→s∉f.rd):=by
 simp only[qfJ,zad]at h;have h1:=qcS h.1;have h2:=qcS h.2;exact⟨fun hs=>⟨fun hr=>h1 s hs (zac _ hr),fun hw=>h1 s hs (zab _ hw)⟩,fun hs=>h2 s hs⟩
theorem qpb {ops:Array Oper}{fl:List qcL}(h:qf7 ops.toList fl [] []=true) {S:Nat→Bool}(hS:qkj ops S) {i:Nat}{o:Oper}{f:qcL}(ho:ops[i]? =some o) (hf:fl[i]? =some f) (hn:S i=false) (he:∀j∈qbP o,S j=true)
  {s:Nat}(hs:s∈f.rd∨s∈f.wr):∀j g,fl[j]? =some g→s∈g.wr→S j=decide (j<i):=by
 obtain⟨hlen,M,hM⟩:=qkp h;intro j g hg hw;have hjs:j<ops.size:=by
  have:=(zao.1 hg).1;omega
 have hoj:ops[j]? =some ops[j]:=zaF hjs;rcases Nat.lt_trichotomy j i with hlt|heq|hgt
 ·rw[decide_eq_true hlt];cases hSj:S j with
  |true=>rfl
  |false=>
   rcases(hM i o f ho hf).2.2 j g hlt hg with hb|hb
   ·have:=qi4 hlen hM hS (i+1) i o (by omega) ho he j hb;rw[hSj]at this;cases this
   ·obtain⟨n1,n2⟩:=qre hb (s:=s);rcases hs with hs|hs
    ·exact absurd hs (n2 hw)
    ·exact absurd hw (n1 hs).2
 ·subst heq;rw[hn];simp
 ·rw[decide_eq_false (by omega)];cases hSj:S j with
  |false=>rfl
  |true=>
   rcases(hM j _ g hoj hg).2.2 i f hgt hf with hb|hb
   ·have:=qi4 hlen hM hS (j+1) j _ (by omega) hoj (hS j _ hoj hSj) i hb;rw[hn]at this;cases this
   ·obtain⟨n1,n2⟩:=qre hb (s:=s);rcases hs with hs|hs
    ·exact absurd hs (n1 hw).1
    ·exact absurd hs (n1 hw).2
theorem qih {ops:Array Oper}{fl:List qcL}{σ:St}(h:qf7 ops.toList fl [] []=true) {S:Nat→Bool}(hS:qkj ops S) {i:Nat}{o:Oper}{f:qcL}(ho:ops[i]? =some o) (hf:fl[i]? =some f) (hn:S i=false) (he:∀j∈qbP o,S j=true)
  {s:Nat}(hs:s∈f.rd∨s∈f.wr):qt (qbM S 0 fl σ) s=qt (qbU (fl.take i) σ) s:=by
 have hb:=qcl fl 0 i σ;rw[zaM]at hb;rw[←hb];exact qcO fl 0 rfl rfl fun k g hg hw=>by
  rw[zaM];exact qpb h hS ho hf hn he hs k g hg hw
theorem qpX {fl:List qcL}{i:Nat}{f:qcL}(hf:fl[i]? =some f) (σ:St):qbU (fl.take (i+1)) σ=qk (qbU (fl.take i) σ) f.us:=by
 rw[List.take_add_one,hf];simp[qbU,List.foldl_append]
theorem qmK {ops:Array Oper}{fl:List qcL}{σ:St}(h:qf7 ops.toList fl [] []=true) {S S':Nat→Bool}(hS:qkj ops S) {i:Nat}{o:Oper}{f:qcL}(ho:ops[i]? =some o) (hf:fl[i]? =some f) (hn:S i=false) (he:∀j∈qbP o,S j=true)
  (hS1:S' i=true) (hS2:∀j,j≠i→S' j=S j):qbM S' 0 fl σ=qk (qbM S 0 fl σ) f.us:=by
 apply qj1
 ·rw[qO,qaX,qaX]
 ·intro s;by_cases hs:s∈f.wr
  ·have h1:qt (qbM S' 0 fl σ) s=qt (qbU (fl.take (i+1)) σ) s:=by
    have hb:=qcl fl 0 (i+1) σ;rw[zaM]at hb;rw[←hb];refine qcO fl 0 rfl rfl fun k g hg hw=>?_;rw[zaM];by_cases hk:k=i
    ·subst hk;rw[hS1];simp
    ·rw[hS2 k hk,qpb h hS ho hf hn he (.inr hs) k g hg hw];by_cases hlt:k<i
     ·rw[decide_eq_true hlt,decide_eq_true (by omega)]
     ·rw[decide_eq_false hlt,decide_eq_false (by omega)]
   rw[h1,qpX hf];refine(qhf _ ?_ (qih h hS ho hf hn he (.inr hs))).symm;rw[qaX];have hb:=qcl fl 0 i σ;rw[←hb,qaX]
  ·rw[qhc _ hs];refine qcO fl 0 rfl rfl fun k g hg hw=>?_;rw[zaM];refine hS2 k fun e=>?_;subst e;rw[hf]at hg;injection hg with hg;subst hg;exact hs hw
theorem qdO {ops:Array Oper}{listed:Array Bool}{i:Nat}(h:i∈Region.ready .any ops listed):i<ops.size∧listed.getD i true=false∧∃o,ops[i]? =some o∧∀j∈qbP o,listed.getD j false=true:=by
 simp only[Region.ready,List.mem_filter,List.mem_range,zad,za8]at h;obtain⟨h1,h2,h3⟩:=h;have ho:ops[i]? =some ops[i]:=zaF h1;refine⟨h1,h2,_,ho,fun j hj=>?_⟩;rw[ho]at h3;simp only[Option.map_some,Option.getD_some]at h3;rw[←Array.all_toList,zaN]at h3;simp only[qbP,zaS,List.mem_filter]at hj;obtain⟨e,⟨he,hb⟩,rfl⟩:=hj;have:=h3 e he;rw[hb]at this;simpa using this
theorem qgo {ops:Array Oper}{listed:Array Bool}{i:Nat}{o:Oper}(ho:ops[i]? =some o) (hl:listed.getD i true=false) (he:∀j∈qbP o,listed.getD j false=true):i∈Region.ready .any ops listed:=by
 simp only[Region.ready,List.mem_filter,List.mem_range,zad,za8];refine⟨(zav.1 ho).1,hl,?_⟩;rw[ho];simp only[Option.map_some,Option.getD_some];rw[←Array.all_toList,zaN];intro e hm;by_cases hb:Region.binds .any e=true
 ·rw[he e.on (zaS.2 ⟨e,List.mem_filter.2 ⟨hm,hb⟩,rfl⟩)];simp
 ·simp[hb]
theorem qjN (S:Nat→Bool):(l l':List qcL)→l.map (·.us)=l'.map (·.us)→∀i σ,qbM S i l σ=qbM S i l' σ
 |[],[],_,_,_=>rfl
 |[],_::_,h,_,_=>by cases h
 |_::_,[],h,_,_=>by cases h
 |f::l,f'::l',h,i,σ=>by
  simp only[zaZ,List.cons.injEq]at h;simp only[qbM,h.1];exact qjN S l l' h.2 _ _
theorem qjQ:(l l':List qcL)→l.map (·.us)=l'.map (·.us)→∀σ,qbU l σ=qbU l' σ
 |[],[],_,_=>rfl
 |[],_::_,h,_=>by cases h
 |_::_,[],h,_=>by cases h
 |f::l,f'::l',h,σ=>by
  simp only[zaZ,List.cons.injEq]at h;simp only[qbU,List.foldl_cons,h.1];exact qjQ l l' h.2 _
theorem qlU (pins:List Nat) (σ:St) (fl:List qcL):(os:List Oper)→(fs:List qcL)→fs.length=os.length→(qgy pins σ fl os fs).map (·.us)=fs.map (·.us)
 |[],[],_=>rfl
 |[],_::_,h=>by cases h
 |_::_,[],h=>by cases h
 |o::os,f::fs,h=>by
  simp only[qgy,zaZ,qlU pins σ fl os fs (by simpa using h)];congr 1;split
  ·split<;>rfl
  ·rfl
theorem qpz (pins:List Nat) (σ:St) (fl:List qcL):(os:List Oper)→(fs:List qcL)→fs.length=os.length→∀(i:Nat) (o:Oper) (f f':qcL),os[i]? =some o→fs[i]? =some f→(qgy pins σ fl os fs)[i]? =some f'→f'.rd=f.rd∨∃s,qgj o=some s∧(qoX σ fl s||qmA pins σ fl s)=true
 |[],_,_,i,o,f,f',h,_,_=>by simp at h
 |_::_,[],h,_,_,_,_,_,_,_=>by cases h
 |o'::os,f0::fs,h,i,o,f,f',h1,h2,h3=>by
  cases i with
  |zero=>
   simp only[qgy,List.getElem?_cons_zero,zbg.injEq]at h1 h2 h3;subst h1;subst h2;subst h3;split
   ·rename_i s hs;split
    ·rename_i hq;exact .inr ⟨s,hs,hq⟩
    ·exact .inl rfl
   ·exact .inl rfl
  |succ i=>
   simp only[qgy,List.getElem?_cons_succ]at h1 h2 h3;exact qpz pins σ fl os fs (by simpa using h) i o f f' h1 h2 h3
theorem qkL {s:Nat}:(us:List U)→{σ:St}→qgO (qt σ s).2=true→us.all (fun u=>u.s !=s||(!u.bump&&qgO u.a))=true→(qt (qk σ us) s).1=(qt σ s).1∧qgO (qt (qk σ us) s).2=true
 |[],_,h,_=>⟨rfl,h⟩
 |u::us,σ,h,hu=>by
  simp only[List.all_cons,zad]at hu;have key:(qt (qX σ u) s).1=(qt σ s).1∧qgO (qt (qX σ u) s).2=true:=by
   by_cases hs:s=u.s
   ·by_cases hlt:u.s<σ.length
    ·have h1:=hu.1;simp only[hs,bne_self_eq_false,Bool.false_or,zad,za8]at h1;rw[hs,qS σ u hlt,h1.1];exact⟨rfl,h1.2⟩
    ·have e1:qX σ u=σ:=by simp only[qX];exact List.set_eq_of_length_le (by omega)
     rw[e1];exact⟨rfl,h⟩
   ·rw[qu _ _ hs];exact⟨rfl,h⟩
  obtain⟨k1,k2⟩:=qkL us (σ:=qX σ u) key.2 hu.2;exact⟨k1.trans key.1,k2⟩
theorem qhd {S:Nat→Bool}{s:Nat}:(l:List qcL)→(i:Nat)→{σ:St}→qgO (qt σ s).2=true→l.all (fun f=>f.us.all (fun u=>u.s !=s||(!u.bump&&qgO u.a)))=true→(qt (qbM S i l σ) s).1=(qt σ s).1∧qgO (qt (qbM S i l σ) s).2=true
 |[],_,_,h,_=>⟨rfl,h⟩
 |f::l,i,σ,h,hl=>by
  simp only[List.all_cons,zad]at hl;simp only[qbM];split
  ·obtain⟨k1,k2⟩:=qkL f.us h hl.1;obtain⟨k3,k4⟩:=qhd l (i+1) k2 hl.2;exact⟨k3.trans k1,k4⟩
  ·exact qhd l (i+1) h hl.2
theorem qt4 {E:Env}{o:Oper}{s:Nat}(ho:qgj o=some s) {lk lk':Nat→Ent}(h1:qgO (lk s).2=true) (h2:qgO (lk' s).2=true) (h3:(lk' s).1=(lk s).1):(qdv E none o).run lk'=(qdv E none o).run lk:=by
 unfold qgj at ho;split at ho;case h_2=>cases ho
 rename_i s' hg hop;injection ho with ho;subst ho;cases ha:lk s' with
 |mk v a=>
  cases ha':lk' s' with
  |mk v' a'=>
   rw[ha]at h1 h3;rw[ha']at h2 h3;simp only at h1 h2 h3;subst h3;have ev:∀ {b:AV}{lk0:Nat→Ent},lk0 s'=(v',b)→qgO b=true→(qec E [] o).run lk0=some ⟨qbp o (.ref s' v'),[]⟩:=fun {b lk0} hb h0=>by
    unfold qgO at h0;split at h0
    ·simp only[qec,hop,opd,Q.bind,Q.run,hb,qbk,qoM,za0,if_false,okE]
    ·simp only[qec,hop,opd,Q.bind,Q.run,hb,qbk,qoM,za0,if_false,okE]
    ·cases h0
   simp only[qdv,Q.ym,ev ha h1,ev ha' h2,Option.bind_some];unfold qly;split
   ·rfl
   ·have e:∀d,((qbp o (.ref s' v')).any (qnv d))=false:=fun d=>by unfold qbp;split<;>simp[qnv]
    simp only[e,za0,if_false,Q.run]
theorem qlZ {s:Nat}:(us:List U)→{σ:St}→qhu (qt σ s).2=true→us.all (fun u=>u.s !=s||qhu u.a)=true→qhu (qt (qk σ us) s).2=true
 |[],_,h,_=>h
 |u::us,σ,h,hu=>by
  simp only[List.all_cons,zad]at hu;refine qlZ us (σ:=qX σ u) ?_ hu.2;by_cases hs:s=u.s
  ·by_cases hlt:u.s<σ.length
   ·have h1:=hu.1;simp only[hs,bne_self_eq_false,Bool.false_or]at h1;rw[hs,qS σ u hlt];exact h1
   ·have e1:qX σ u=σ:=by simp only[qX];exact List.set_eq_of_length_le (by omega)
    rw[e1];exact h
  ·rw[qu _ _ hs];exact h
theorem qij {S:Nat→Bool}{s:Nat}:(l:List qcL)→(i:Nat)→{σ:St}→qhu (qt σ s).2=true→l.all (fun f=>f.us.all (fun u=>u.s !=s||qhu u.a))=true→qhu (qt (qbM S i l σ) s).2=true
 |[],_,_,h,_=>h
 |f::l,i,σ,h,hl=>by
  simp only[List.all_cons,zad]at hl;simp only[qbM];split
  ·exact qij l (i+1) (qlZ f.us h hl.1) hl.2
  ·exact qij l (i+1) h hl.2
theorem qub {E:Env}{o:Oper}{s:Nat}(ho:qgj o=some s) (hp:E.pins.contains s=true) {lk lk':Nat→Ent}(h1:qhu (lk s).2=true) (h2:qhu (lk' s).2=true):(qdv E none o).run lk'=(qdv E none o).run lk:=by
 unfold qgj at ho;split at ho;case h_2=>cases ho
 rename_i s' hg hop;injection ho with ho;subst ho;cases ha:lk s' with
 |mk v a=>
  cases ha':lk' s' with
  |mk v' a'=>
   rw[ha]at h1;rw[ha']at h2;simp only at h1 h2;cases a<;>simp only[qhu,za0]at h1;cases a'<;>simp only[qhu,za0]at h2;simp only[qdv,qec,hop,opd,Q.bind,Q.run,ha,ha',qbk,qoM,hp,if_true,okE];unfold qly;split
   ·rfl
   ·have e:∀d,((qbp o (.pip s' 0)).any (qnv d))=false:=fun d=>by unfold qbp;split<;>simp[qnv]
    simp only[e,za0,if_false,Q.run]
theorem qsW {ops:Array Oper}{o:Oper}{s:Nat}{g:Option (Nat×Bool)}(ho:qgj o=some s) (hg:qb3 ops o=some g):g=none:=by
 unfold qgj at ho;split at ho;case h_2=>cases ho
 rename_i s' hgd hop;unfold qb3 at hg;rw[hgd]at hg;injection hg with hg;exact hg.symm
theorem qug {a b:AV}(h:qv5 a b=true):a=b:=by
 unfold qv5 at h;split at h
 ·simp only[zad,beq_iff_eq]at h;obtain⟨rfl,rfl,rfl⟩:=h;rfl
 ·simp only[zad,beq_iff_eq,decide_eq_true_eq]at h;obtain⟨rfl,rfl,rfl,rfl⟩:=h;rfl
 ·cases h
theorem qsa {f:Eff}{g:Option Eff}(h:qqz f g=true):g=some f:=by
 obtain⟨fu,fc⟩:=f;unfold qqz at h;split at h;case h_2=>cases h
 rename_i u h' e1 e2;simp only at e1 e2;subst e1;subst e2;obtain⟨hu,hc⟩:=h';simp only at h;split at h;case h_2=>cases h
 rename_i u';obtain⟨us,ub,ua⟩:=u;obtain⟨us',ub',ua'⟩:=u';simp only[zad,beq_iff_eq]at h;obtain⟨rfl,rfl,rfl,h⟩:=h;rw[qug h]
theorem qqG (E:Env) (σ0:St) (fl:List qcL):(σ:St)→(os:List Oper)→(fs:List qcL)→fs.length=os.length→(qp8 E σ0 fl σ os fs).map (·.us)=fs.map (·.us)
 |_,[],[],_=>rfl
 |_,[],_::_,h=>by cases h
 |_,_::_,[],h=>by cases h
 |σ,o::os,f::fs,h=>by
  simp only[qp8,zaZ,qqG E σ0 fl _ os fs (by simpa using h)]
theorem qqQ (E:Env) (σ0:St) (fl:List qcL):(σ:St)→(os:List Oper)→(fs:List qcL)→fs.length=os.length→∀(i:Nat) (o:Oper) (f f':qcL),os[i]? =some o→fs[i]? =some f→(qp8 E σ0 fl σ os fs)[i]? =some f'→f'.rd=f.rd∨qkY E σ0 fl (qt (qbU (fs.take i) σ)) o=some f'.rd
 |_,[],_,_,i,o,f,f',h,_,_=>by simp at h
 |_,_::_,[],h,_,_,_,_,_,_,_=>by cases h
 |σ,o'::os,f0::fs,h,i,o,f,f',h1,h2,h3=>by
  cases i with
  |zero=>
   simp only[qp8,List.getElem?_cons_zero,zbg.injEq]at h1 h2 h3;subst h1;subst h2;subst h3;simp only[List.take_zero,qbU,List.foldl_nil];cases hq:qkY E σ0 fl (qt σ) o' with
   |none=>exact .inl rfl
   |some r=>exact .inr rfl
  |succ i=>
   simp only[qp8,List.getElem?_cons_succ]at h1 h2 h3;exact qqQ E σ0 fl _ os fs (by simpa using h) i o f f' h1 h2 h3
theorem qmu {s:Nat}:(us:List U)→{σ:St}→us.all (fun u=>u.s !=s|| !u.bump)=true→(qt (qk σ us) s).1=(qt σ s).1∧(qt (qk σ us) s).2∈(qt σ s).2::(us.filter fun u=>u.s==s).map (·.a)
 |[],_,_=>⟨rfl,zai⟩
 |u::us,σ,hu=>by
  simp only[List.all_cons,zad]at hu;obtain⟨k1,k2⟩:=qmu us (σ:=qX σ u) hu.2;have e:qk σ (u::us)=qk (qX σ u) us:=rfl;rw[e];by_cases hs:s=u.s
  ·by_cases hlt:u.s<σ.length
   ·have h1:=hu.1;simp only[hs,bne_self_eq_false,Bool.false_or,za8]at h1;rw[hs,qS σ u hlt,h1]at k1 k2;simp only[za0,if_false]at k1 k2;rw[←hs]at k1 k2;refine⟨k1,?_⟩;simp only[List.filter_cons,hs,beq_self_eq_true,if_true,zaZ];rw[←hs];exact zae _ k2
   ·have e1:qX σ u=σ:=by simp only[qX];exact List.set_eq_of_length_le (by omega)
    rw[e1]at k1 k2⊢
    refine⟨k1,?_⟩;rcases zam.1 k2 with k2|k2
    ·rw[k2];exact zai
    ·refine zae _ ?_;simp only[List.filter_cons];split
     ·exact zae _ k2
     ·exact k2
  ·rw[qu _ _ hs]at k1 k2;refine⟨k1,?_⟩;have hb:(u.s==s)=false:=by simpa using fun e:u.s=s=>hs e.symm
   simp only[List.filter_cons,hb,za0,if_false];exact k2
theorem qio {S:Nat→Bool}{s:Nat}:(l:List qcL)→(i:Nat)→{σ:St}→l.all (fun f=>f.us.all (fun u=>u.s !=s|| !u.bump))=true→(qt (qbM S i l σ) s).1=(qt σ s).1∧(qt (qbM S i l σ) s).2∈qrV s σ l
 |[],_,_,_=>⟨rfl,zai⟩
 |f::l,i,σ,hl=>by
  simp only[List.all_cons,zad]at hl;simp only[qbM];split
  ·obtain⟨k1,k2⟩:=qmu f.us (σ:=σ) hl.1;obtain⟨k3,k4⟩:=qio l (i+1) (σ:=qk σ f.us) hl.2;refine⟨k3.trans k1,?_⟩;unfold qrV at k4⊢
   simp only[List.flatMap_cons];rcases zam.1 k4 with k4|k4
   ·rw[k4];rcases zam.1 k2 with k2|k2
    ·rw[k2];exact zai
    ·exact zae _ (zac _ k2)
   ·exact zae _ (zab _ k4)
  ·obtain⟨k3,k4⟩:=qio l (i+1) (σ:=σ) hl.2;refine⟨k3,?_⟩;unfold qrV at k4⊢
   simp only[List.flatMap_cons];rcases zam.1 k4 with k4|k4
   ·rw[k4];exact zai
   ·exact zae _ (zab _ k4)
theorem qut {E:Env}{σ0:St}{fl:List qcL}{lk:Nat→Ent}{o:Oper}{rd:List Nat}{f:Eff}(h:qkY E σ0 fl lk o=some rd) (hf:(qdv E none o).run lk=some f):o.guard=none∧∃s,fl.all (fun f=>f.us.all (fun u=>u.s !=s|| !u.bump))=true∧
  ∀lk':Nat→Ent,(∀x∈rd,lk' x=lk x)→(lk' s).1=(lk s).1→(lk' s).2∈qrV s σ0 fl→(qdv E none o).run lk'=some f:=by
 unfold qkY at h;split at h;case h_1=>cases h
 rename_i hg;rw[hf]at h;simp only at h;split at h;case h_2=>cases h
 rename_i u hu;split at h;case h_1=>cases h
 rename_i s hs;split at h;case isFalse=>cases h
 rename_i hc;rw[zad]at hc;injection h with h;subst h;refine⟨hg,s,hc.1,fun lk' h1 h2 h3=>?_⟩;have key:=qsa (zaN.1 hc.2 _ h3);rw[←key];refine Go.Vi.Q.run_congr _ fun x hx=>?_;unfold qwb;by_cases hxs:x=s
 ·subst hxs;simp only[beq_self_eq_true,cond_true];rw[←h2]
 ·have hb:(x==s)=false:=by simpa using hxs
  rw[hb];refine h1 x ?_;refine za2.2 ⟨_,h3,List.mem_filter.2 ⟨hx,by simpa using hxs⟩⟩
theorem qrm (E:Env) (σ:St) (os:List Oper) (fl:List qcL) (h:fl.length=os.length):(qiN E σ os fl).map (·.us)=fl.map (·.us):=by
 unfold qiN;have e:=qlU E.pins σ fl os fl h;have hl:(qgy E.pins σ fl os fl).length=os.length:=by
  have:=congrArg List.length e;simpa[h]using this
 rw[qqG E σ fl σ os _ hl,e]
theorem qrA (E:Env) (σ:St) (os:List Oper) (fl:List qcL) (h:fl.length=os.length) (i:Nat) (o:Oper) (f f':qcL) (h1:os[i]? =some o) (h2:fl[i]? =some f) (h3:(qiN E σ os fl)[i]? =some f'):
  f'.rd=f.rd∨(∃s,qgj o=some s∧(qoX σ fl s||qmA E.pins σ fl s)=true)∨qkY E σ fl (qt (qbU (fl.take i) σ)) o=some f'.rd:=by
 unfold qiN at h3;have e:=qlU E.pins σ fl os fl h;have hl:(qgy E.pins σ fl os fl).length=os.length:=by
  have:=congrArg List.length e;simpa[h]using this
 have hi:i<(qgy E.pins σ fl os fl).length:=by rw[hl];exact(zao.1 h1).1
 have h4:(qgy E.pins σ fl os fl)[i]? =some (qgy E.pins σ fl os fl)[i]:=zaa hi;rcases qqQ E σ fl σ os _ hl i o _ f' h1 h4 h3 with k|k
 ·rcases qpz E.pins σ fl os fl h i o f _ h1 h2 h4 with k'|k'
  ·exact .inl (k.trans k')
  ·exact .inr (.inl k')
 ·refine .inr (.inr ?_);rw[←k,qjQ ((qgy E.pins σ fl os fl).take i) (fl.take i) (by rw[List.map_take,List.map_take,e]) σ]
theorem qac.drew {C:Ctx}{σ:St}{tm:Array Value}{w:World}{own:Nat→List Nat}(h:qac C σ tm w own):qac C σ tm w.drew own:=
 ⟨h.size,h.kept.drew,h.mine,h.nodup,h.apart,h.outside,fun s hs=>qax.keep (X:= { P:=C.P,ver:=fun s=>(qt σ s).1,tm:=fun s=>tm.getD s undef,w,F:=C.free w own,own,pn:=C.pn }) (X':= { P:=C.P,ver:=fun s=>(qt σ s).1,tm:=fun s=>tm.getD s undef,w:=w.drew,F:=C.free w.drew own,own,pn:=C.pn }) ⟨rfl,rfl⟩ (fun b hb hlt=>⟨hb,hlt,rfl⟩) (fun _ _ _=>rfl) (fun m hm hv=>⟨hv,rfl,fun b hb hp=>⟨hb,rfl⟩⟩) (h.rep s hs),h.wf⟩
end Go.Vi
namespace Go.Vi
open Go.RowKit
section
variable {C:Ctx}{E:Env}{σ τ:St}{tm:Array Value}{a:Act}{w w':World}{own:Nat→List Nat}{o:Oper}{p:qg3} [Tabbed E C]
theorem qlq: {c:List Bool}→qvO c=true→qcT c
 |[],_=>fun b hb=>by cases hb
 |[x],h=>fun b hb=>by simp at hb;rw[hb];exact h
 |x::y::r,h=>fun b hb=>by
  simp only[qvO,zad]at h;rcases zam.1 hb with rfl|hb
  ·exact h.1
  ·exact qlq h.2 b hb
theorem qcB {wr:List Nat}:(us:List U)→{σ:St}→(∀u∈us,u.s∈wr)→Fr wr σ (qk σ us)
 |[],σ,_=>⟨rfl,fun _ _=>rfl⟩
 |u::us,σ,h=>by
  obtain⟨h1,h2⟩:=qcB us (σ:=qX σ u) (fun v hv=>h v (zae _ hv));refine⟨by rw[show qk σ (u::us)=qk (qX σ u) us from rfl,h1,qal],fun s hs=>?_⟩;show qt (qk (qX σ u) us) s=_;rw[h2 s hs];exact qu σ u fun e=>hs (e▸h u zai)
theorem Fr.trans {wr:List Nat}{a b c:St}(h:Fr wr a b) (k:Fr wr b c):Fr wr a c:=⟨k.1.trans h.1,fun s hs=>(k.2 s hs).trans (h.2 s hs)⟩
theorem Fr.refl (wr:List Nat) (a:St):Fr wr a a:=⟨rfl,fun _ _=>rfl⟩
theorem Fr.mono {wr wr':List Nat}{a b:St}(h:Fr wr a b) (hs:∀s∈wr,s∈wr'):Fr wr' a b:=⟨h.1,fun s hn=>h.2 s fun hm=>hn (hs s hm)⟩
def qvm (σ σ':St):Prop:=∀s,(qt σ s).1≤(qt σ' s).1
theorem qp1 (σ:St) (u:U):qvm σ (qX σ u):=fun s=>by
 by_cases h:s=u.s
 ·subst h;by_cases hl:u.s<σ.length
  ·rw[qS σ u hl];simp only;split
   ·exact Nat.le_succ _
   ·exact zay _
  ·have:qX σ u=σ:=by simp only[qX];exact List.set_eq_of_length_le (by omega)
   rw[this];exact zay _
 ·rw[qu _ _ h];exact zay _
theorem qvm.trans {a b c:St}(h:qvm a b) (k:qvm b c):qvm a c:=fun s=>Nat.le_trans (h s) (k s)
theorem qkS:(us:List U)→(σ:St)→qvm σ (qk σ us)
 |[],_=>fun _=>zay _
 |u::us,σ=>(qp1 σ u).trans (qkS us (qX σ u))
theorem qeS {wr:List Nat}{ops:Array Oper}:(l:List Oper)→{σ σ':St}→{c c':List Bool}→{fs fs':List qcL}→qbZ E wr ops l σ c fs=some (σ',c',fs')→
  Fr wr σ σ'∧qvm σ σ'∧(∀b∈c,b∈c')∧(∀f∈fs,f∈fs')∧Fr (fs'.flatMap (·.wr)) σ σ'
 |[],σ,σ',c,c',fs,fs',he=>by
  simp only[qbZ,zbg.injEq,zbh.injEq]at he;obtain⟨rfl,rfl,rfl⟩:=he;exact⟨Fr.refl _ _,fun _=>zay _,fun _ h=>h,fun _ h=>h,Fr.refl _ _⟩
 |o::r,σ,σ',c,c',fs,fs',he=>by
  simp only[qbZ]at he;split at he
  ·cases he
  rename_i g hg;split at he
  ·cases he
  rename_i f hf;split at he;case isFalse=>cases he
  rename_i hu;obtain⟨h1,h2,h3,h4,h5⟩:=qeS r he;have hu':∀u∈f.upd,u.s∈wr:=fun u hm=>by
   have:=zaN.1 hu u hm;simp at this;exact this.1
  refine⟨(qcB f.upd hu').trans h1,(qkS _ _).trans h2,fun b hb=>h3 b (zac _ hb),fun x hx=>h4 x (zae _ hx),(qcB f.upd fun u hm=>?_).trans h5⟩;exact za2.2 ⟨_,h4 _ zai,zaR hm⟩
def qbW (pin:List Nat) (a a':Act):Prop:=a'.defers=a.defers∧∀s∈pin,a'.tmps.getD s undef=a.tmps.getD s undef
theorem qbW.refl (pin:List Nat) (a:Act):qbW pin a a:=⟨rfl,fun _ _=>rfl⟩
theorem qbW.trans {pin:List Nat}{a b c:Act}(h:qbW pin b c) (k:qbW pin a b):qbW pin a c:=⟨h.1.trans k.1,fun s hs=>(h.2 s hs).trans (k.2 s hs)⟩
theorem qbW.pinC {pin:List Nat}{a a':Act}(hF:qh9 E C pin) (hpc:qn8 C a.tmps) (h:qbW pin a a'):qn8 C a'.tmps:=fun k b hb=>(h.2 k (hF.sub k b hb)).trans (hpc k b hb)
theorem qnA (hE:qa2 E C.P) {pin wr:List Nat}(hF:qh9 E C pin) {ops:Array Oper}{Q:Exit→Act→World→Prop}:(l:List Oper)→qeJ pin l=true→{σ σ':St}→{a:Act}→{w:World}→{own:Nat→List Nat}→{c c':List Bool}→{fs fs':List qcL}→
  qbZ E wr ops l σ c fs=some (σ',c',fs')→qcT c'→qn8 C a.tmps→qac C σ a.tmps w own→(∀a' w' own',qbW pin a a'→qac C σ' a'.tmps w' own'→Q .normal a' w')→wpList C.P ops Q l a w
 |[],_,σ,σ',a,w,own,c,c',fs,fs',he,_,_,h,hQ=>by
  simp only[qbZ,zbg.injEq,zbh.injEq]at he;obtain⟨rfl,_,_⟩:=he;exact hQ a w own (qbW.refl _ _) h
 |o::r,hp,σ,σ',a,w,own,c,c',fs,fs',he,hc,hpc,h,hQ=>by
  simp only[qeJ,List.all_cons,zad]at hp;simp only[qbZ]at he;split at he
  ·cases he
  rename_i g hg;split at he
  ·cases he
  rename_i f hf;split at he;case isFalse=>cases he
  rename_i hu;have hu':∀u∈f.upd,u.s<σ.length:=fun u hm=>by
   have:=zaN.1 hu u hm;simp at this;exact this.2
  obtain⟨_,_,h3,_,_⟩:=qeS r he;have hcf:qcT f.chk:=fun b hb=>hc b (h3 b (zab _ hb));have hok:=qfF hE hF hpc h hg hf hu' hcf (wpList C.P ops Q r) Q fun a' w' own' hd hst=>by
   have hk:qbW pin a a':=⟨hd.1,fun s hs=>hd.2 s fun e=>qcS hp.1 s (by simp[e]) hs⟩;exact qnA hE hF r hp.2 he hc (hk.pinC hF hpc) hst fun a2 w2 own2 hd2 hst2=>hQ a2 w2 own2 (hd2.trans hk) hst2
  unfold wpList;split at hok
  ·rename_i hw;rw[if_pos hw];exact .inl hok
  ·rename_i hw;rw[if_neg hw];exact hok
theorem qkI {listed:Array Bool}(h:listed.toList.countP (fun b=> !b)=0) {i:Nat}(hi:i<listed.size):listed.getD i false=true:=by
 have:=List.countP_eq_zero.1 h listed[i] (by simp);rw[zaA,zaF hi];simpa using this
theorem qul (hE:qa2 E C.P) {pin:List Nat}(hF:qh9 E C pin) {ops:Array Oper}{Q:Exit→Act→World→Prop}{fl0 fl:List qcL}{c:List Bool}{a0:Act}(hp:qeJ pin ops.toList=true) (hd:qtA E ops σ ops.toList fl0 c) (hus:fl.map (·.us)=fl0.map (·.us)) (hsoft:∀(i:Nat) (o:Oper) (f f':qcL),ops.toList[i]? =some o→fl0[i]? =some f→fl[i]? =some f'→f'.rd=f.rd∨(∃s,qgj o=some s∧(qoX σ fl0 s||qmA E.pins σ fl0 s)=true)∨qkY E σ fl0 (qt (qbU (fl0.take i) σ)) o=some f'.rd) (hg:qf7 ops.toList fl [] []=true) (hc:qcT c) (hpc:qn8 C a0.tmps)
  (hQ:∀a' w' own',qbW pin a0 a'→qac C (qbU fl σ) a'.tmps w' own'→Q .normal a' w'):∀(fuel:Nat) (listed:Array Bool) (a:Act) (w:World) (own:Nat→List Nat),listed.size=ops.size→listed.toList.countP (fun b=> !b)=fuel→qkj ops (fun i=>listed.getD i false)→qbW pin a0 a→
   qac C (qbM (fun i=>listed.getD i false) 0 fl σ) a.tmps w own→wpAny C.P .any ops Q fuel listed a w:=by
 have hlen0:fl0.length=ops.size:=by have:=hd.1;simpa using this
 have hlen:fl.length=ops.size:=by have:=congrArg List.length hus;simp only[List.length_map]at this;omega
 have full:∀ {listed:Array Bool},(∀i,i<ops.size→listed.getD i false=true)→qbM (fun i=>listed.getD i false) 0 fl σ=qbU fl σ:=by
  intro listed hall;have hb:=qcl fl 0 fl.length σ;rw[za5]at hb;rw[←hb];apply qj1
  ·rw[qaX,qaX]
  ·intro s;refine qcO fl 0 rfl rfl fun k g hg _=>?_;have:=(zao.1 hg).1;rw[hall (0+k) (by omega),decide_eq_true (by omega)]
 intro fuel;induction fuel with
 |zero=>
  intro listed a w own hs hcnt hcl hk hst;have hall:∀i,i<ops.size→listed.getD i false=true:=fun i hi=>qkI hcnt (by omega);refine⟨?_,hQ a w own hk (by rw[full hall]at hst;exact hst)⟩;cases hr:Region.ready .any ops listed with
  |nil=>rfl
  |cons i r=>
   obtain⟨h1,h2,_⟩:=qdO (ops:=ops) (listed:=listed) (i:=i) (by rw[hr];exact zai);have h3:=hall i h1;rw[zaA,zaF (by omega)]at h2 h3;simp only[Option.getD_some]at h2 h3;rw[h2]at h3;cases h3
 |succ fuel ih=>
  intro listed a w own hs hcnt hcl hk hst;refine⟨fun hr=>?_,fun i hi=>?_⟩
  ·have hall:∀i,i<ops.size→listed.getD i false=true:=by
    intro i;induction i using Nat.strongRecOn with
    |ind i ihi=>
     intro hi;cases hb:listed.getD i false with
     |true=>rfl
     |false=>
      have ho:ops[i]? =some ops[i]:=zaF hi;obtain⟨_,M,hM⟩:=qkp hg;obtain⟨q1,_,_⟩:=hM i _ _ ho (zaa (by omega));have hb':listed.getD i true=false:=by
       rw[zaA,zaF (by omega)]at hb⊢
       exact hb
      have:=qgo ho hb' fun j hj=>ihi j (q1 j hj) (by have:=q1 j hj;omega);rw[hr]at this;cases this
   exact hQ a w own hk (by rw[full hall]at hst;exact hst)
  ·obtain⟨h1,h2,o,ho,he⟩:=qdO hi;have hf:fl[i]? =some fl[i]:=zaa (by omega);have hn:listed.getD i false=false:=by
    rw[zaA,zaF (by omega)]at h2⊢
    exact h2
   have hf0:fl0[i]? =some fl0[i]:=zaa (by omega);obtain⟨g,f,k1,k2,k3,k4,k5⟩:=hd.2 i o _ (by simpa using ho) hf0;have hui:(fl[i]).us=f.upd:=by
    have h1:(fl.map (·.us))[i]? =(fl0.map (·.us))[i]? :=by rw[hus]
    simp only[List.getElem?_map,hf,hf0,Option.map_some,zbg.injEq]at h1;rw[h1,k3]
   have hta:qbU (fl0.take i) σ=qbU (fl.take i) σ:=qjQ _ _ (by rw[List.map_take,List.map_take,hus]) σ;have hrun:(qdv E g o).run (qt (qbM (fun i=>listed.getD i false) 0 fl σ))=some f:=by
    rw[←k2];rcases hsoft i o _ _ (by simpa using ho) hf0 hf with hrd|⟨s,hs1,hs2⟩|hrd
    ·rw[hta];rw[hta]at k3;refine Go.Vi.Q.run_congr _ fun s hs=>qih hg hcl ho hf hn he (.inl ?_);rw[hrd,k3];exact hs
    ·have hgn:=qsW hs1 k1;subst hgn;rcases Bool.or_eq_true_iff.1 hs2 with hs2|hs2
     ·simp only[qoX,zad]at hs2;obtain⟨a1,a2⟩:=qhd (S:=fun i=>listed.getD i false) fl0 0 hs2.1 hs2.2;obtain⟨b1,b2⟩:=qhd (S:=fun k=>decide (k<0+i)) fl0 0 hs2.1 hs2.2;rw[qjN _ fl0 fl hus.symm]at a1 a2;rw[qcl fl0 0 i σ]at b1 b2;exact qt4 hs1 b2 a2 (a1.trans b1.symm)
     ·simp only[qmA,zad]at hs2;have a2:=qij (S:=fun i=>listed.getD i false) fl0 0 hs2.2.1 hs2.2.2;have b2:=qij (S:=fun k=>decide (k<0+i)) fl0 0 hs2.2.1 hs2.2.2;rw[qjN _ fl0 fl hus.symm]at a2;rw[qcl fl0 0 i σ]at b2;exact qub hs1 hs2.1 b2 a2
    ·obtain⟨hgd,s,hs1,hs2⟩:=qut (f:=f) hrd (by
      have e:g=none:=by
       have k1:=k1;unfold qb3 at k1;have hgd:o.guard=none:=by
        unfold qkY at hrd;split at hrd
        ·cases hrd
        ·assumption
       rw[hgd]at k1;injection k1 with k1;exact k1.symm
      rw[←e];exact k2)
     have e:g=none:=by
      unfold qb3 at k1;rw[hgd]at k1;injection k1 with k1;exact k1.symm
     subst e;obtain⟨a1,a2⟩:=qio (S:=fun i=>listed.getD i false) fl0 0 (σ:=σ) hs1;obtain⟨b1,_⟩:=qio (S:=fun k=>decide (k<0+i)) fl0 0 (σ:=σ) hs1;rw[qjN _ fl0 fl hus.symm]at a1 a2;rw[qcl fl0 0 i σ]at b1;rw[hs2 (qt (qbM (fun i=>listed.getD i false) 0 fl σ)) (fun x hx=>?_) (a1.trans b1.symm) a2]
     ·exact k2.symm
     ·rw[hta];exact qih hg hcl ho hf hn he (.inl hx)
   have hok:=qfF hE hF (hk.pinC hF hpc) hst k1 hrun (fun u hu=>by rw[qaX];exact k4 u hu) (fun b hb=>hc b (k5 b hb)) (wpAny C.P .any ops Q fuel (listed.setIfInBounds i true)) Q fun a' w' own' hkd hst'=>?_
   ·unfold wpOp;rw[ho];simp only;split at hok
    ·rename_i hw;rw[if_pos hw];exact .inl hok
    ·rename_i hw;rw[if_neg hw];exact hok
   ·have hset:∀j,(listed.setIfInBounds i true).getD j false=if j=i then true else listed.getD j false:=by
     intro j;simp only[zaA,Array.getElem?_setIfInBounds];by_cases hj:j=i
     ·subst hj;simp[hs,h1]
     ·rw[if_neg (fun e=>hj e.symm),if_neg hj]
    refine ih _ a' w' own' (by simpa using hs) ?_ ?_ ?_ ?_
    ·rw[Array.toList_setIfInBounds,List.countP_set (by simp;omega),hcnt];have hb:listed.toList[i]'(by simp;omega)=false:=by
      rw[zaA,zaF (by omega)]at hn;simpa using hn
     rw[hb];simp
    ·intro j oj hoj hSj k hkk;simp only[hset]at hSj⊢
     split
     ·rfl
     ·by_cases hji:j=i
      ·subst hji;rw[ho]at hoj;injection hoj with hoj;subst hoj;exact he k hkk
      ·rw[if_neg hji]at hSj;exact hcl j oj hoj hSj k hkk
    ·refine qbW.trans ⟨hkd.1,fun s hs=>hkd.2 s fun e=>?_⟩ hk;have:=zaN.1 hp o (by have:=Array.mem_of_getElem? ho;simpa using this);exact qcS this s (by simp[e]) hs
    ·have e:=qmK (σ:=σ) hg (S':=fun j=>(listed.setIfInBounds i true).getD j false) hcl ho hf hn he (by simp[hset]) (fun j hj=>by simp[hset,hj]);rw[e];rw[hui];exact hst'
theorem qob (hE:qa2 E C.P) {pin wr:List Nat}(hF:qh9 E C pin) {id:Nat}{ops:Array Oper}{d:Bool}{Q:Exit→Act→World→Prop}{σ':St}{c:List Bool}{ds:List Nat}(hp:qeJ pin ops.toList=true) (he:qeM E wr ops d σ=some (σ',c,ds)) (hc:qcT c) (hpc:qn8 C a.tmps) (h:qac C σ a.tmps w own)
  (hQ:∀a' w' own',qbW pin a a'→qac C σ' a'.tmps w' own'→Q .normal a' w'):(Code.region id ops d).wp C.P Q a w:=by
 unfold qeM at he;split at he;case h_2=>cases he
 rename_i σ1 c1 fs h1;split at he;case isFalse=>cases he
 rename_i hd;injection he with he;simp only[zbh.injEq]at he;obtain⟨rfl,rfl,rfl⟩:=he;cases d with
 |false=>exact wp_region_list (qnA hE hF ops.toList hp h1 hc hpc h hQ)
 |true=>
  obtain⟨fl,g1,g2,g3,_⟩:=qk5 ops.toList h1;have hfs:fs.reverse=fl:=by rw[g1];simp
  rw[hfs]at hd;have hd:qf7 ops.toList (qiN E σ ops.toList fl) [] []=true:=by simpa using hd
  have hsu:=qrm E σ ops.toList fl g2.1;refine wp_region_any hE.mixed (qul hE hF (a0:=a) hp g2 hsu (qrA E σ ops.toList fl g2.1) hd hc hpc (by rw[qjQ _ _ hsu,←g3];exact hQ) _ _ _ _ own (by simp) (by simp[List.countP_replicate]) (fun i o ho hS=>?_) (qbW.refl _ _) ?_)
  ·simp[zaA,Array.getElem?_replicate]at hS;split at hS<;>simp at hS
  ·have e:qbM (fun i=>(Array.replicate ops.size false).getD i false) 0 (qiN E σ ops.toList fl) σ=σ:=by
    have:(fun i=>(Array.replicate ops.size false).getD i false)=fun _=>false:=by
     funext i;simp only[zaA,Array.getElem?_replicate];split<;>rfl
    rw[this,qg4]
   rw[e];exact h.drew
theorem qnM {wr:List Nat}{ops:Array Oper}{d:Bool}{σ':St}{c:List Bool}{ds:List Nat}(he:qeM E wr ops d σ=some (σ',c,ds)):Fr wr σ σ'∧qvm σ σ'∧Fr ds σ σ':=by
 unfold qeM at he;split at he;case h_2=>cases he
 rename_i σ1 c1 fs h1;split at he;case isFalse=>cases he
 injection he with he;simp only[zbh.injEq]at he;obtain⟨rfl,rfl,rfl⟩:=he;obtain⟨k1,k2,_,_,k5⟩:=qeS ops.toList h1;exact⟨k1,k2,k5⟩
theorem qlY (b:Bool) (σ1 σ2:St):(ds:List Nat)→(σ:St)→(qk4 b ds σ σ1 σ2).length=σ.length∧∀s,(s∈ds∧s<σ.length→qt (qk4 b ds σ σ1 σ2) s=(max (qt σ1 s).1 (qt σ2 s).1+1,qgM b (qt σ1 s).2 (qt σ2 s).2))∧(¬(s∈ds∧s<σ.length)→qt (qk4 b ds σ σ1 σ2) s=qt σ s)
 |[],σ=>⟨rfl,fun s=>⟨fun h=>(by cases h.1),fun _=>rfl⟩⟩
 |d::ds,σ=>by
  obtain⟨h1,h2⟩:=qlY b σ1 σ2 ds (σ.set d (max (qt σ1 d).1 (qt σ2 d).1+1,qgM b (qt σ1 d).2 (qt σ2 d).2));have e:qk4 b (d::ds) σ σ1 σ2=qk4 b ds (σ.set d (max (qt σ1 d).1 (qt σ2 d).1+1,qgM b (qt σ1 d).2 (qt σ2 d).2)) σ1 σ2:=rfl;rw[e];refine⟨by rw[h1];simp,fun s=>?_⟩;obtain⟨k1,k2⟩:=h2 s;rw[List.length_set]at k1 k2;by_cases hs:s∈ds∧s<σ.length
  ·exact⟨fun _=>k1 hs,fun hn=>absurd ⟨zae _ hs.1,hs.2⟩ hn⟩
  ·rw[k2 hs,qig];by_cases hd:s=d∧d<σ.length
   ·rw[if_pos hd];obtain⟨rfl,hd⟩:=hd;exact⟨fun _=>rfl,fun hn=>absurd ⟨zai,hd⟩ hn⟩
   ·rw[if_neg hd];refine⟨fun hn=>?_,fun _=>rfl⟩;rcases zam.1 hn.1 with rfl|hm
    ·exact absurd ⟨rfl,hn.2⟩ hd
    ·exact absurd ⟨hm,hn.2⟩ hs
theorem qac.join {b:Bool}{ds:List Nat}{σ1 σ2:St}(h:qac C (bif b then σ1 else σ2) tm w own) (h1:Fr ds σ σ1) (h2:Fr ds σ σ2):qac C (qk4 b ds σ σ1 σ2) tm w own:=by
 obtain⟨j1,j2⟩:=qlY b σ1 σ2 ds σ;have hf:Fr ds σ (bif b then σ1 else σ2):=by cases b<;>assumption
 have zero:∀ {ρ:St}{s:Nat},ρ.length=σ.length→¬s<σ.length→qt ρ s=(0,.undef):=fun {ρ s} hl hs=>by simp[qt,List.getD,zaD (show ρ.length≤s by omega)]
 refine h.retag (j1.trans hf.1.symm) (fun s=>s∈ds∧s<σ.length) (fun s hs=>?_) (fun s hs=>?_) (fun s m _ hm hb=>?_)
 ·rw[(j2 s).2 hs];by_cases hd:s∈ds
  ·have hl:¬s<σ.length:=fun hl=>hs ⟨hd,hl⟩;rw[zero rfl hl,zero hf.1 hl]
  ·exact(hf.2 s hd).symm
 ·rw[(j2 s).1 hs];have e:(qt (bif b then σ1 else σ2) s).2=bif b then(qt σ1 s).2 else(qt σ2 s).2:=by cases b<;>rfl
  refine⟨?_,fun v hv=>?_⟩
  ·exact(qno (X:=sit C (bif b then σ1 else σ2) tm w own) b (by rw[←e];exact h.at_ s)).2
  ·rw[e]at hv;exact(qno b hv).1
 ·rw[(j2 m.1).1 hb];have:=h.wf s m hm;have:m.2≤max (qt σ1 m.1).1 (qt σ2 m.1).1:=by
   cases b
   ·exact Nat.le_trans this (Nat.le_max_right _ _)
   ·exact Nat.le_trans this (Nat.le_max_left _ _)
  show m.2<_+1;omega
theorem qpu {b:Bool}{ds wr:List Nat}{σ1 σ2:St}(h:∀s∈ds,s∈wr):Fr wr σ (qk4 b ds σ σ1 σ2):=by
 obtain⟨j1,j2⟩:=qlY b σ1 σ2 ds σ;exact⟨j1,fun s hs=>(j2 s).2 fun hn=>hs (h s hn.1)⟩
end
end Go.Vi
namespace Go.Vi
open Go.RowKit
theorem qac.refillB {C:Ctx}{σ:St}{tm:Array Value}{w:World}{own:Nat→List Nat}(h:qac C σ tm w own) {s t1:Nat}{c c':BC}{o v0 v1 et:Nat}{e:Ty}{xs:List e.den}(hs:(qt σ s).2=.bhl c o t1 v0) (hgt:qt σ t1=(v1,.own et e xs)) (hv:v1=v0) (hne:t1≠s)
  (hsw:c.swap o (.own et e xs)=some c'):∃own',qac C (qk σ [⟨s,false,.box c'⟩,⟨t1,true,.undef⟩]) tm w own':=by
 subst hv;have hat:=h.at_ s;rw[hs]at hat;obtain⟨b,cs,te,b1,b3,hv,h1,h2,h3,h4,h5,h6⟩:=hat;have hrt:=h.at_ t1;rw[hgt]at hrt;have hrt:q8 w (C.free w own) et e xs (tm.getD t1 undef) (own t1):=hrt;have h6:tm.getD t1 undef=hv:=h6 (show(qt σ t1).1=v1 by rw[hgt]);have h1:tm.getD s undef=ptr b 0:=h1;have h5:own s=b::(b1++b3):=h5;have lt:∀ {x:Nat},(qt σ x).2≠ .undef→x<σ.length:=fun {x} hx=>by
  by_cases hlt:x<σ.length
  ·exact hlt
  ·exact absurd (by simp[qt,List.getD,zaD (Nat.le_of_not_lt hlt)]) hx
 have hsl:s<σ.length:=lt (by rw[hs];simp);have htl:t1<σ.length:=lt (by rw[hgt];simp);let nbS:List Nat:=b::(b1++(own t1++b3));have hperm:nbS.Perm (own s++own t1):=by
  rw[h5];refine List.perm_iff_count.2 fun x=>?_;simp only[nbS,List.count_append,List.count_cons];omega
 have hnn:(own s++own t1).Nodup:=zah.2 ⟨h.nodup s,h.nodup t1,fun b hb b' hb' e=>by subst e;exact hne (h.apart t1 s b hb' hb)⟩;let nb:Nat→List Nat:=fun x=>if x=s then nbS else[]
 have nS:nb s=nbS:=by simp[nb]
 have nX:nb t1=[]:=by simp[nb,hne]
 have mem:∀u:U,u∈([⟨s,false,.box c'⟩,⟨t1,true,.undef⟩]:List U)→u=⟨s,false,.box c'⟩∨u=⟨t1,true,.undef⟩:=fun u hu=>by simpa using hu
 refine Exists.elim (h.multi (tm':=tm) (w':=w) [⟨s,false,.box c'⟩,⟨t1,true,.undef⟩] nb (by simp[Ne.symm hne]) (fun u hu=>?_) rfl (fun _ _=>rfl) (fun u hu=>?_) (qbc.refl _ _) (fun u hu=>?_) (fun u hu u' hu' b hb hb'=>?_) (fun X' hP hpn hw hF hF2 hver htm u hu=>?_) (fun u hu m hm=>?_)) fun own' hfin=>⟨own',hfin.1⟩
 ·rcases mem u hu with rfl|rfl
  ·exact hsl
  ·exact htl
 ·rcases mem u hu with rfl|rfl
  ·refine .inr ⟨rfl,fun b hb hp=>⟨?_,rfl⟩⟩;show b∈nb s;rw[nS];exact hperm.mem_iff.2 (zac _ hb)
  ·exact .inl rfl
 ·rcases mem u hu with rfl|rfl
  ·simp only[nS];refine⟨fun b hb=>?_,hperm.nodup_iff.2 hnn⟩;rcases zaj.1 (hperm.mem_iff.1 hb)with hb|hb
   ·exact .inr ⟨⟨s,false,.box c'⟩,by simp,hb⟩
   ·exact .inr ⟨⟨t1,true,.undef⟩,by simp,hb⟩
  ·simp only[nX];exact⟨(fun b hb=>by cases hb),zaH⟩
 ·rcases mem u hu with rfl|rfl<;>rcases mem u' hu' with rfl|rfl
  ·rfl
  ·simp only[nX]at hb';cases hb'
  ·simp only[nX]at hb;cases hb
  ·rfl
 ·rcases mem u hu with rfl|rfl
  ·simp only[nS];refine⟨b,cs,b1++(own t1++b3),te,h1,by rw[hw];exact h2,?_,rfl⟩;rw[hw];refine h4 (.own et e xs) c' (own t1) (fun x hx hlt=>⟨hF x hx,hlt,rfl⟩) (fun _ _ _=>rfl) hsw ⟨hv,rfl,?_⟩;rw[←h6];exact hrt.keep (fun b hb hlt=>⟨hF b hb,hlt,rfl⟩) (fun _ _ _=>rfl)
  ·trivial
 ·rcases mem u hu with rfl|rfl<;>cases hm
theorem qac.refill {C:Ctx}{σ:St}{tm:Array Value}{w:World}{own:Nat→List Nat}(h:qac C σ tm w own) {s t:Nat}{a':AV}(hr:qqp σ s=some (a',t)):∃own',qac C (qk σ [⟨s,false,a'⟩,⟨t,true,.undef⟩]) tm w own':=by
 unfold qqp at hr;split at hr;case h_3=>cases hr
 case h_2=>
  rename_i c o t1 v0 hs;split at hr;case h_2=>cases hr
  rename_i v1 et e xs hgt;split at hr;case isFalse=>cases hr
  rename_i hcond;split at hr;case h_2=>cases hr
  rename_i c' hsw;injection hr with hr;simp only[zbh.injEq]at hr;obtain⟨rfl,rfl⟩:=hr;exact h.refillB hs hgt hcond.1 hcond.2 hsw
 rename_i av fo i o1 t1 v0 hs;split at hr;case h_2=>cases hr
 rename_i et e xs v1 et' e' ys hrow hgt;split at hr;case isFalse=>cases hr
 rename_i hcond;obtain⟨hv,hne,hna,hat,hmk,hsub⟩:=hcond;subst hv;obtain⟨y0,hsub⟩:=Option.isSome_iff_exists.1 hsub;split at hr;case h_2=>cases hr
 rename_i y hy;split at hr;case h_2=>cases hr
 rename_i a2 hsw;injection hr with hr;simp only[zbh.injEq]at hr;obtain⟨rfl,rfl⟩:=hr;obtain⟨g,n,cap,b1,b2,b3,j1,j2,j3,j4,j5,j6,j7,j8⟩:=h.holRow hs hrow;have hcell:=j5 (by rw[hgt]);have hrt:=h.at_ t1;rw[hgt]at hrt;have hrt:qar w (C.free w own) et' e' ys (tm.getD t1 undef) (own t1):=q8.to0 hmk hrt;obtain⟨p,q,w3,w4⟩:=qho.refill j3 j1 j2 hna hsub hat hy hcell hrt;have lt:∀ {x:Nat},(qt σ x).2≠ .undef→x<σ.length:=fun {x} hx=>by
  by_cases hlt:x<σ.length
  ·exact hlt
  ·exact absurd (by simp[qt,List.getD,zaD (Nat.le_of_not_lt hlt)]) hx
 have hsl:s<σ.length:=lt (by rw[hs];simp);have htl:t1<σ.length:=lt (by rw[hgt];simp);let nbS:List Nat:=b1++((g::(p++(own t1++q)))++b3);have hperm:nbS.Perm (own s++own t1):=by
  rw[j6,w3];refine List.perm_iff_count.2 fun x=>?_;simp only[nbS,List.count_append,List.count_cons];omega
 have hnn:(own s++own t1).Nodup:=zah.2 ⟨h.nodup s,h.nodup t1,fun b hb b' hb' e=>by subst e;exact hne (h.apart t1 s b hb' hb)⟩;let nb:Nat→List Nat:=fun x=>if x=s then nbS else[]
 have nS:nb s=nbS:=by simp[nb]
 have nX:nb t1=[]:=by simp[nb,hne]
 have mem:∀u:U,u∈([⟨s,false,a2⟩,⟨t1,true,.undef⟩]:List U)→u=⟨s,false,a2⟩∨u=⟨t1,true,.undef⟩:=fun u hu=>by simpa using hu
 refine Exists.elim (h.multi (tm':=tm) (w':=w) [⟨s,false,a2⟩,⟨t1,true,.undef⟩] nb (by simp[Ne.symm hne]) (fun u hu=>?_) rfl (fun _ _=>rfl) (fun u hu=>?_) (qbc.refl _ _) (fun u hu=>?_) (fun u hu u' hu' b hb hb'=>?_) (fun X' hP hpn hw hF hF2 hver htm u hu=>?_) (fun u hu m hm=>?_)) fun own' hfin=>⟨own',hfin.1⟩
 ·rcases mem u hu with rfl|rfl
  ·exact hsl
  ·exact htl
 ·rcases mem u hu with rfl|rfl
  ·refine .inr ⟨rfl,fun b hb hp=>⟨?_,rfl⟩⟩;show b∈nb s;rw[nS];exact hperm.mem_iff.2 (zac _ hb)
  ·exact .inl rfl
 ·rcases mem u hu with rfl|rfl
  ·simp only[nS];refine⟨fun b hb=>?_,hperm.nodup_iff.2 hnn⟩;rcases zaj.1 (hperm.mem_iff.1 hb)with hb|hb
   ·exact .inr ⟨⟨s,false,a2⟩,by simp,hb⟩
   ·exact .inr ⟨⟨t1,true,.undef⟩,by simp,hb⟩
  ·simp only[nX];exact⟨(fun b hb=>by cases hb),zaH⟩
 ·rcases mem u hu with rfl|rfl<;>rcases mem u' hu' with rfl|rfl
  ·rfl
  ·simp only[nX]at hb';cases hb'
  ·simp only[nX]at hb;cases hb
  ·rfl
 ·rcases mem u hu with rfl|rfl
  ·simp only[nS];refine(j8 X' (.own et e (qbh xs i y)) (g::(p++(own t1++q))) a2 ?_ hF ⟨_,rfl,?_⟩ hsw).1
   ·rw[hw];exact qbc.refl _ _
   ·rw[hw];exact qho.keep (fun b hb hlt=>⟨hF b hb,hlt,rfl⟩) (fun _ _ _=>rfl) w4
  ·trivial
 ·rcases mem u hu with rfl|rfl
  ·rw[qhp hsw]at hm;cases hm
  ·cases hm
end Go.Vi
namespace Go.Vi
open Go.RowKit
theorem qhV:(l:List MapEntry)→l.Pairwise (fun x y=>x.born<y.born)→(j:Nat)→(hj:j<l.length)→l.filter (fun x=> !(x.born==(l[j]).born))=l.eraseIdx j
 |[],_,j,hj=>by cases hj
 |x::l,hp,0,_=>by
  have hp:=List.pairwise_cons.1 hp;simp only[List.getElem_cons_zero,List.filter_cons,beq_self_eq_true,zaT,za0,if_false,List.eraseIdx_cons_zero];exact List.filter_eq_self.2 fun y hy=>by
   have:=hp.1 y hy;simp;omega
 |x::l,hp,j+1,hj=>by
  have hp:=List.pairwise_cons.1 hp;have hj':j<l.length:=by simpa using hj
  have:=hp.1 _ (zau hj');simp only[List.getElem_cons_succ,List.filter_cons,List.eraseIdx_cons_succ];rw[if_pos (by simp;omega),qhV l hp.2 j hj']
theorem qph {es:Array MapEntry}(hinc:∀(i j:Nat) (e e':MapEntry),i<j→es[i]? =some e→es[j]? =some e'→e.born<e'.born):es.toList.Pairwise (fun x y=>x.born<y.born):=by
 rw[zaQ];intro i j hi hj hij;exact hinc i j _ _ hij (by rw[←Array.getElem?_toList,zaa hi]) (by rw[←Array.getElem?_toList,zaa hj])
theorem qpK {es:Array MapEntry}{seen:Array Nat}(hinc:∀(i j:Nat) (e e':MapEntry),i<j→es[i]? =some e→es[j]? =some e'→e.born<e'.born) {j:Nat}(hj:j<(qcp es seen).size):
  (qcp es (seen.push ((qcp es seen)[j]).born)).toList=(qcp es seen).toList.eraseIdx j:=by
 have h1:(qcp es seen).toList=es.toList.filter (fun e=> !seen.contains e.born):=by unfold qcp;simp
 have hp:(qcp es seen).toList.Pairwise (fun x y=>x.born<y.born):=by rw[h1];exact(qph hinc).filter _
 have h2:=qhV (qcp es seen).toList hp j (by simpa using hj);rw[←h2];have hg:(qcp es seen).toList[j]'(by simpa using hj)=(qcp es seen)[j]:=by simp
 rw[hg];generalize (qcp es seen)[j].born=bb;rw[h1,List.filter_filter];unfold qcp;rw[Array.toList_filter];congr 1;funext x;rw[show(seen.push bb).contains x.born=(seen.contains x.born||x.born==bb)from Array.contains_push ..];cases seen.contains x.born<;>cases (x.born==bb)<;>rfl
theorem qqv {P:Program}(w:World) (ty:TypeId) (b bm since c0:Nat) (seen:Array Nat) (es:Array MapEntry) (clock:Nat) (hi:w.heap[b]? =some (.mapIter (some bm) since seen c0)) (hb:w.heap[bm]? =some (.map es clock)) (hold:∀x∈es.toList,x.born<since) (hsc:since≤c0):
  ((qcp es seen).size=0∧(Instr.next (ptr b 0) false ty).run P w=.ok (.tuple #[.bool false]) w)∨
  ∃(j:Nat) (hj:j<(qcp es seen).size) (w1:World),(w1=w∨w1=w.drew)∧(Instr.next (ptr b 0) false ty).run P w=.ok (.tuple #[.bool true,((qcp es seen)[j]).key,((qcp es seen)[j]).val]) { w1 with heap:=w.heap.setIfInBounds b (.mapIter (some bm) since (seen.push ((qcp es seen)[j]).born) clock) } :=by
 have hlt:b<w.heap.size:=(zav.1 hi).1;simp only[ptr,Instr.next,getObj,Sem.run_bind,Sem.run,hi,hb,Result.andThen,next_test_false seen es since c0 hold hsc,za0,if_false];unfold qcp;have hmem:∀x∈(Array.filter (fun e=> !seen.contains e.born) es).toList,x.born<since:=fun x hx=>hold x (by simp at hx⊢;exact hx.1);generalize Array.filter (fun e=> !seen.contains e.born) es=L at hmem⊢
 have e1:L.filter (fun x=>decide (x.born<since))=L:=Array.filter_eq_self.2 (fun x hx=>by simpa using hmem x (by simpa using hx));have e2:L.filter (fun x=>decide (x.born≥since))= #[]:=by
  rw[Array.filter_eq_empty_iff];intro x hx;have:=hmem x (by simpa using hx);simp;omega
 simp only[e1,e2,Array.append_empty];by_cases h0:L.size=0
 ·left;have:L= #[]:=Array.eq_empty_of_size_eq_zero h0;subst this;refine⟨rfl,?_⟩;simp[choose,Sem.run,Question.forced]
 ·right;have hne:L.isEmpty=false:=by simp[Array.isEmpty,h0]
  simp only[hne,za0,if_false,Array.empty_append,Array.size_map];have hch:∃(j:Nat) (w1:World),j<L.size∧(w1=w∨w1=w.drew)∧(choose (Question.mapNext L.size)).run P w=.ok j w1:=by
   by_cases hf:L.size≤1
   ·exact⟨0,w,by omega,.inl rfl,by simp[choose,Sem.run,Question.forced,hf]⟩
   ·exact⟨_,w.drew,Nat.mod_lt _ (by omega),.inr rfl,by
     simp only[choose,Sem.run,Question.forced,decide_eq_true_eq,hf,if_false,Question.cut];rfl⟩
  obtain⟨j,w1,hj,hal,hrun⟩:=hch;refine⟨j,hj,w1,hal,?_⟩;have hheap:w1.heap=w.heap:=by rcases hal with rfl|rfl<;>rfl
  have hset:∀o',(setObj b o').run P w1=.ok () { w1 with heap:=w.heap.setIfInBounds b o' } :=fun o'=>by
   simp only[setObj,Sem.run,hheap,hi]
  simp only[hrun,Array.getElem?_map,zaF hj,Option.map_some,Sem.run_bind,hset,Result.andThen];rfl
section
variable {C:Ctx}{E:Env}{σ τ:St}{tm:Array Value}{a:Act}{w w':World}{own:Nat→List Nat}{o:Oper}{p:qg3} [Tabbed E C]
theorem qeK.lt {F:Nat→Prop}{k t:Ty}{rem:List (k.den×t.den)}{cur:Option (k.den×t.den)}{b:Nat}(h:qeK w F k t rem cur b):b<w.heap.size:=by
 rcases h with⟨x,s,y,h3,_⟩|⟨bm,es,clock,since,c0,seen,h3,_⟩
 ·exact(zav.1 h3).1
 ·exact(zav.1 h3).1
theorem qeK.next {P:Program}{F:Nat→Prop}{k t:Ty}{rem:List (k.den×t.den)}{cur:Option (k.den×t.den)}{b:Nat}(ty:TypeId) (h:qeK w F k t rem cur b) (hFb:∀x,F x→x≠b):
  (rem=[]∧(Instr.next (ptr b 0) false ty).run P w=.ok (.tuple #[.bool false]) w)∨
  ∃(j:Nat) (hj:j<rem.length) (v1 v2:Value) (w':World),(Instr.next (ptr b 0) false ty).run P w=.ok (.tuple #[.bool true,v1,v2]) w'∧qbc (fun x=>x=b) w w'∧qeK w' F k t (rem.eraseIdx j) (some rem[j]) b:=by
 rcases h with⟨x,s,y,h1,h2,h3⟩|⟨bm,es,clock,since,c0,seen,h1,h2,h3,h4,h5,h6,h7,h8,⟨ys,hyp,h9,h10⟩,h11⟩
 ·refine .inl ⟨h2,?_⟩;simp[Instr.next,ptr,getObj,Sem.run_bind,Sem.run,h1,Result.andThen]
 ·have hold:∀x∈es.toList,x.born<since:=fun x hx=>by
   obtain⟨i,hi,rfl⟩:=zaw hx;exact h6 i _ (by rw[←Array.getElem?_toList,zaa hi])
  rcases qqv (P:=P) w ty b bm since c0 seen es clock h1 h4 hold h7 with⟨g1,g2⟩|⟨j,hj,w1,g1,g2⟩
  ·exact .inl ⟨zaV (by rw[←hyp.length_eq];omega),g2⟩
  ·have hjr:j<ys.length:=by omega
   obtain⟨i',hi',hei,hpe⟩:=qvG hyp j hjr;have hbl:b<w.heap.size:=(zav.1 h1).1;have hheap:∀ob x,x≠b→({ w1 with heap:=w.heap.setIfInBounds b ob }:World).heap[x]? =w.heap[x]? :=fun ob x hx=>by
    simp[Array.getElem?_setIfInBounds,Ne.symm hx]
   have hk:∀ob,qbc (fun x=>x=b) w { w1 with heap:=w.heap.setIfInBounds b ob } :=fun ob=>by
    rcases g1 with rfl|rfl<;>exact⟨rfl,rfl,rfl,by simp,fun x _ hx=>hheap ob x hx⟩
   refine .inr ⟨i',hi',_,_,_,g2,hk _,?_⟩;have hF:∀ob x,F x→x<w.heap.size→F x∧x<({ w1 with heap:=w.heap.setIfInBounds b ob }:World).heap.size∧({ w1 with heap:=w.heap.setIfInBounds b ob }:World).heap[x]? =w.heap[x]? :=fun ob x hx hlt=>⟨hx,by simp;exact hlt,hheap ob x (hFb x hx)⟩;have hleft:=qpK h5 hj;have hge:(qcp es seen)[j]? =some (qcp es seen)[j]:=zaF hj;have hgr:ys[j]? =some ys[j]:=zaa hjr;obtain⟨q1,q2,q3⟩:=hF (.mapIter (some bm) since (seen.push ((qcp es seen)[j]).born) clock) bm h2 h3;refine .inr ⟨bm,es,clock,since,clock,seen.push ((qcp es seen)[j]).born,by simp[hbl],q1,q2,q3.trans h4,h5,h6,h8,h8,⟨ys.eraseIdx j,hpe,?_,fun i e p hi hp=>?_⟩,fun p hp=>?_⟩
   ·rw[←zaI,hleft,List.length_eraseIdx_of_lt (by simpa using hj),List.length_eraseIdx_of_lt hjr,zaI];omega
   ·rw[←Array.getElem?_toList,hleft]at hi;have hi:=qkh hi;have hp:=qkh hp;rw[Array.getElem?_toList]at hi;obtain⟨s1,s2,s3,s4⟩:=h10 _ e p hi hp;exact⟨s1,s2,s3,s4.1.keep (hF _),s4.2⟩
   ·injection hp with hp;subst hp;rw[hei];obtain⟨s1,s2,s3,s4⟩:=h10 j _ _ hge hgr;refine⟨_,?_,Array.back?_push,rfl,s1,s2,s3,s4.1.keep (hF _),s4.2⟩;have:(qcp es seen)[j]∈qcp es seen:=Array.getElem_mem hj;unfold qcp at this;exact Array.mem_toList_iff.2 (Array.mem_filter.1 this).1
theorem qvN {pin:List Nat}{I:ItH}{A:qib}{id:Nat}{ops:Array Oper}{rest:Code}(hpat:qvJ (.seq (.region id ops false) rest)=some I) (hp:qeJ pin ops.toList=true) {q:liveDen A.live}{kt vt:Ty}{rem:List (kt.den×vt.den)}{cur:Option (kt.den×vt.den)}{b:Nat}
  (h:qac C (qdw { A with wr:=I.it::A.wr } σ q) a.tmps w own) (hl:(qdw { A with wr:=I.it::A.wr } σ q).length=σ.length) (l1:I.it<σ.length) (l2:I.tn<σ.length) (l3:I.tok<σ.length) (htm:a.tmps.getD I.it undef=ptr b 0) (hown:own I.it=[b]) (hit:qeK w (C.free w own) kt vt rem cur b)
  {Q:Exit→Act→World→Prop}(hQ0:rem=[]→∀a' w' own',qbW pin a a'→qac C (itS I A σ q (.itr kt vt [] none) false) a'.tmps w' own'→Q .normal a' w')
  (hQ1:∀(j:Nat) (hj:j<rem.length) (a':Act) (w':World) (own':Nat→List Nat),qbW pin a a'→qac C (itS I A σ q (.itr kt vt (rem.eraseIdx j) (some rem[j])) true) a'.tmps w' own'→Q .normal a' w'):(Code.region id ops false).wp C.P Q a w:=by
 unfold qvJ at hpat;simp only at hpat;split at hpat;case h_2=>cases hpat
 rename_i o1 o2 hops;split at hpat;case h_2=>cases hpat
 rename_i tn it tok tn' gd1 d1 op1 gd2 d2 op2;split at hpat;case isFalse=>cases hpat
 rename_i hc;obtain⟨rfl,n1,n2,n3⟩:=hc;injection hpat with hpat;subst hpat;simp only at h hl l1 l2 l3 htm hown hQ0 hQ1;refine wp_region_list ?_;rw[hops];rw[hops]at hp;simp only[qeJ,List.all_cons,List.all_nil,Bool.and_true,zad]at hp;have p1:=qcS hp.1;have p2:=qcS hp.2;rw[d1]at p1;rw[d2]at p2;have htn:tn'∉pin:=p1 tn' (by simp);have htok:tok∉pin:=p2 tok (by simp);have ev:a.eval (.tmp it)=ptr b 0:=htm;have key:∀(av:AV) (vt0:Value) (bb:Bool) (w':World),(∃r,vt0=.tuple (#[.bool bb]++r))→(∀X':Sit,X'.w=w'→(∀x,C.free w own x→X'.F x)→qax X' av (ptr b 0) [b])→av.mentions=[]→qbc (fun x=>x=b) w w'→
   ∃own',qac C (itS ⟨it,tn',tok⟩ A σ q av bb) ((a.tmps.setIfInBounds tn' vt0).setIfInBounds tok (.bool bb)) w' own':=fun av vt0 bb w' _ hrep hmen hk=>by
  let nb:Nat→List Nat:=fun x=>if x=it then[b]else[]
  have nI:nb it=[b]:=by simp[nb]
  have nT:nb tn'=[]:=by simp[nb,Ne.symm n2]
  have nK:nb tok=[]:=by simp[nb,Ne.symm n3]
  have mem:∀u:U,u∈([⟨it,true,av⟩,⟨tn',true,.undef⟩,⟨tok,true,.val .bool bb⟩]:List U)→u=⟨it,true,av⟩∨u=⟨tn',true,.undef⟩∨u=⟨tok,true,.val .bool bb⟩:=fun u hu=>by simpa using hu
  have hsz:=h.size;rw[hl]at hsz;have hblt:=hit.lt;have g1:((a.tmps.setIfInBounds tn' vt0).setIfInBounds tok (.bool bb)).getD it undef=ptr b 0:=by
   rw[qah _ _ n3,qah _ _ n2];exact htm
  have g3:((a.tmps.setIfInBounds tn' vt0).setIfInBounds tok (.bool bb)).getD tok undef=.bool bb:=qbd _ _ (by simp;omega);have e1:itS ⟨it,tn',tok⟩ A σ q av bb=qk (qdw { A with wr:=it::A.wr } σ q) [⟨it,true,av⟩,⟨tn',true,.undef⟩,⟨tok,true,.val .bool bb⟩]:=rfl;rw[e1];refine Exists.elim (h.multi (tm':=(a.tmps.setIfInBounds tn' vt0).setIfInBounds tok (.bool bb)) (w':=w') [⟨it,true,av⟩,⟨tn',true,.undef⟩,⟨tok,true,.val .bool bb⟩] nb (by simp[n1,n2,n3]) (fun u hu=>?_) (by simp) (fun x hx=>?_) (fun u hu=>?_) (hk.mono fun x hx=>⟨⟨it,true,av⟩,by simp,by show x∈own it;rw[hown,hx];simp⟩) (fun u hu=>?_) (fun u hu u' hu' x hx hx'=>?_) (fun X' hP hpn hw hF hF2 hver htm' u hu=>?_) (fun u hu m hm=>?_)) fun own' hfin=>⟨own',hfin.1⟩
  ·rw[hl];rcases mem u hu with rfl|rfl|rfl
   ·exact l1
   ·exact l2
   ·exact l3
  ·have hx:x≠it∧x≠tn'∧x≠tok:=by simpa using hx
   rw[qah _ _ hx.2.2,qah _ _ hx.2.1]
  ·rcases mem u hu with rfl|rfl|rfl<;>exact .inl rfl
  ·rcases mem u hu with rfl|rfl|rfl
   ·simp only[nI];exact⟨fun x hx=>.inr ⟨⟨it,true,av⟩,by simp,by show x∈own it;rw[hown];exact hx⟩,by simp⟩
   ·simp only[nT];exact⟨fun x hx=>(by cases hx),zaH⟩
   ·simp only[nK];exact⟨fun x hx=>(by cases hx),zaH⟩
  ·rcases mem u hu with rfl|rfl|rfl<;>rcases mem u' hu' with rfl|rfl|rfl<;>first|rfl|(simp only[nT]at hx;cases hx)|(simp only[nK]at hx;cases hx)|(simp only[nT]at hx';cases hx')|(simp only[nK]at hx';cases hx')
  ·rcases mem u hu with rfl|rfl|rfl
   ·simp only[nI,g1];exact hrep X' hw hF
   ·trivial
   ·simp only[nK,g3];exact⟨rfl,qau.ofBool _ _ _⟩
  ·rcases mem u hu with rfl|rfl|rfl
   ·simp only[hmen]at hm;cases hm
   ·cases hm
   ·cases hm
 have kp:∀(v1 v2:Value),qbW pin a ((a.put (some tn') v1).put (some tok) v2):=fun v1 v2=>⟨rfl,fun s hs=>by
  show((a.tmps.setIfInBounds tn' v1).setIfInBounds tok v2).getD s undef=a.tmps.getD s undef;rw[qah _ _ (fun e:s=tok=>htok (by rw[←e];exact hs)),qah _ _ (fun e:s=tn'=>htn (by rw[←e];exact hs))]⟩
 have step:∀(ar:Array Value) (bb:Bool) (w':World),(Instr.next (ptr b 0) false o1.type).run C.P w=.ok (.tuple ar) w'→ar[0]? =some (.bool bb)→Q .normal ((a.put (some tn') (.tuple ar)).put (some tok) (.bool bb)) w'→wpList C.P ops Q [o1,o2] a w:=fun ar bb w' hrun hv0 hq=>by
  refine wpList_plain gd1 fun K hK=>?_;unfold Oper.wp;have hx:(execOp a.eval o1).run C.P w=.ok (.value (.tuple ar)) w':=by
   unfold execOp;rw[op1];simp only[Sem.run_bind,ev,hrun,Result.andThen_ok];rfl
  rw[hx];refine hK _ _ ?_;rw[d1];refine wpList_plain gd2 fun K2 hK2=>?_;unfold Oper.wp;have ev2:(a.put (some tn') (.tuple ar)).eval (.tmp tn')=.tuple ar:=by
   show(a.tmps.setIfInBounds tn' (.tuple ar)).getD tn' undef=_;exact qbd _ _ (by have:=h.size;omega)
  have hx2:(execOp (a.put (some tn') (.tuple ar)).eval o2).run C.P w'=.ok (.value (.bool bb)) w':=by
   unfold execOp;rw[op2];simp[Sem.run_bind,ev2,Instr.extract,hv0]
  rw[hx2];refine hK2 _ _ ?_;rw[d2];exact hq
 have hFb:∀x,C.free w own x→x≠b:=fun x hx e=>hx.2.2 it (by rw[hown,e];simp);rcases hit.next (P:=C.P) o1.type hFb with⟨r1,r2⟩|⟨j,hj,v1,v2,w',r1,r2,r3⟩
 ·obtain⟨own',hs⟩:=key (.itr kt vt [] none) (.tuple #[.bool false]) false w ⟨#[],rfl⟩ (fun X' hw hF=>⟨b,rfl,rfl,by
   rw[hw];rw[r1]at hit;rcases hit with⟨x,s,y,h1,_,_⟩|⟨bm,es,clock,since,c0,seen,h1,h2,h3,h4,h5,h6,h7,h8,⟨ys,hyp,h9,h10⟩,h11⟩
   ·exact .inl ⟨x,s,y,h1,rfl,rfl⟩
   ·exact .inr ⟨bm,es,clock,since,c0,seen,h1,hF _ h2,h3,h4,h5,h6,h7,h8,⟨ys,hyp,h9,(by intro i e p hi hp;rw[hyp.eq_nil]at hp;cases hp)⟩,(by intro p hp;cases hp)⟩⟩) rfl (qbc.refl _ _)
  exact step #[.bool false] false w r2 rfl (hQ0 r1 _ w own' (kp _ _) hs)
 ·obtain⟨own',hs⟩:=key (.itr kt vt (rem.eraseIdx j) (some rem[j])) (.tuple #[.bool true,v1,v2]) true w' ⟨#[v1,v2],rfl⟩ (fun X' hw hF=>⟨b,rfl,rfl,by
   rw[hw];exact r3.keep (fun x hx hlt=>⟨hF x hx,hlt,rfl⟩) rfl⟩) rfl r2
  exact step #[.bool true,v1,v2] true w' r1 rfl (hQ1 j hj _ w' own' (kp _ _) hs)
end
end Go.Vi
namespace Go.Vi
open Go.RowKit
section
variable {C:Ctx}{E:Env}{σ τ:St}{tm:Array Value}{a:Act}{w w':World}{own:Nat→List Nat}{o:Oper}{p:qg3} [Tabbed E C]
theorem qnC {wr:List Nat}{ops:Array Oper}:(l:List Oper)→{σ σ':St}→{c c':List Bool}→{fs fs':List qcL}→qbZ E wr ops l σ c fs=some (σ',c',fs')→(∀f∈fs,∀s∈f.wr,s∈wr)→∀f∈fs',∀s∈f.wr,s∈wr
 |[],σ,σ',c,c',fs,fs',he,h=>by
  simp only[qbZ,zbg.injEq,zbh.injEq]at he;obtain⟨rfl,rfl,rfl⟩:=he;exact h
 |o::r,σ,σ',c,c',fs,fs',he,h=>by
  simp only[qbZ]at he;split at he
  ·cases he
  rename_i g hg;split at he
  ·cases he
  rename_i f hf;split at he;case isFalse=>cases he
  rename_i hu;refine qnC r he fun f' hf' s hs=>?_;rcases zam.1 hf' with rfl|hf'
  ·obtain⟨u,hm,rfl⟩:=zaS.1 hs;have:=zaN.1 hu u hm;simp at this;exact this.1
  ·exact h f' hf' s hs
theorem qoB {wr:List Nat}{ops:Array Oper}{d:Bool}{σ':St}{c:List Bool}{ds:List Nat}(he:qeM E wr ops d σ=some (σ',c,ds)):∀s∈ds,s∈wr:=by
 unfold qeM at he;split at he;case h_2=>cases he
 rename_i σ1 c1 fs h1;split at he;case isFalse=>cases he
 injection he with he;simp only[zbh.injEq]at he;obtain⟨rfl,rfl,rfl⟩:=he;intro s hs;obtain⟨f,hf,hs⟩:=za2.1 hs;exact qnC ops.toList h1 (fun f hf=>by cases hf) f hf s hs
theorem qs9 (hpc:qn8 C a.tmps) (h:qac C σ a.tmps w own) {c:Operand}{x:Bool}{ow:List Nat}(he:Q.run (qt σ) ((opd E [] 0 c).bind qmM)=some ⟨.bool,x,ow⟩):a.eval c=.bool x:=by
 obtain⟨o1,h1,h2⟩:=Q.yb he;exact qau.bool (qd2 h (qaz h ⟨hpc,fun q hq=>by cases hq⟩ h1) h2)
theorem qtZ {σ:St}{own:Nat→List Nat}(l:List Nat) (s:Nat) (h:qac C σ tm w own):∃own',qac C (qrE l σ s) tm w own':=by
 unfold qrE;split
 ·rename_i av t hr;split
  ·exact h.refill hr
  ·exact⟨own,h⟩
 ·exact⟨own,h⟩
theorem qtY {wr l:List Nat}{σ:St}{s:Nat}(hl:∀t∈l,t∈wr) (hs:s∈wr):Fr wr σ (qrE l σ s):=by
 unfold qrE;split
 ·rename_i av t hr;split
  ·rename_i ht;refine qcB _ fun u hu=>?_;rcases zam.1 hu with rfl|hu
   ·exact hs
   ·rw[zat.1 hu];exact hl t (by simpa using ht)
  ·exact Fr.refl _ _
 ·exact Fr.refl _ _
theorem qoq (l0:List Nat):(l:List Nat)→{σ:St}→{own:Nat→List Nat}→qac C σ tm w own→∃own',qac C (l.foldl (qrE l0) σ) tm w own'
 |[],_,own,h=>⟨own,h⟩
 |s::l,σ,own,h=>by
  obtain⟨own1,h1⟩:=qtZ l0 s h;exact qoq l0 l h1
theorem qu3 (l:List Nat) {σ:St}{own:Nat→List Nat}(h:qac C σ tm w own):∃own',qac C (quq l σ) tm w own':=qoq l l h
theorem qog {wr l0:List Nat}(hl:∀t∈l0,t∈wr):(l:List Nat)→{σ:St}→(∀s∈l,s∈wr)→Fr wr σ (l.foldl (qrE l0) σ)
 |[],σ,_=>Fr.refl _ _
 |s::l,σ,h=>(qtY hl (h s zai)).trans (qog hl l fun s' hs=>h s' (zae _ hs))
theorem quT {wr:List Nat}(l:List Nat) {σ:St}(h:∀s∈l,s∈wr):Fr wr σ (quq l σ):=qog h l h
theorem qg1:(l:List Nat)→{σ:St}→{own:Nat→List Nat}→qac C σ tm w own→∃own',qac C (qim l σ) tm w own'
 |[],_,own,h=>⟨own,h⟩
 |s::l,σ,own,h=>by
  obtain⟨own1,h1,_⟩:=h.freeze s;exact qg1 l h1
theorem qhm {wr:List Nat}:(l:List Nat)→{σ:St}→(∀s∈l,s∈wr)→Fr wr σ (qim l σ)
 |[],σ,_=>Fr.refl _ _
 |s::l,σ,h=>by
  have h1:Fr wr σ (qk σ [⟨s,false,(qt σ s).2.freeze⟩]):=qcB _ fun u hu=>by
   rw[zat.1 hu];exact h s zai
  exact h1.trans (qhm l fun s' hs=>h s' (zae _ hs))
theorem qrN {σ:St}{own:Nat→List Nat}(s:Nat) (h:qac C σ tm w own):∃own',qac C (qmf σ s) tm w own':=by
 unfold qmf;split
 ·rename_i t x hs;obtain⟨own',h1,_⟩:=h.expose (u:=t) (x:=x) (f:=false) hs rfl (by simp[BC.get,Ty.yu]);exact⟨own',h1⟩
 ·exact⟨own,h⟩
theorem ql2:(l:List Nat)→{σ:St}→{own:Nat→List Nat}→qac C σ tm w own→∃own',qac C (qlo l σ) tm w own'
 |[],_,own,h=>⟨own,h⟩
 |s::l,σ,own,h=>by
  obtain⟨own1,h1⟩:=qrN s h;exact ql2 l h1
theorem ql4 {wr:List Nat}:(l:List Nat)→{σ:St}→(∀s∈l,s∈wr)→Fr wr σ (qlo l σ)
 |[],σ,_=>Fr.refl _ _
 |s::l,σ,h=>by
  have h1:Fr wr σ (qmf σ s):=by
   unfold qmf;split
   ·rename_i t x _;exact qcB [⟨s,true,.view t x 0⟩] fun u hu=>by
     rw[zat.1 hu];exact h s zai
   ·exact Fr.refl _ _
  exact h1.trans (ql4 l fun s' hs=>h s' (zae _ hs))
theorem qjZ {σ1 σ2:St}:(l:List Nat)→∀s∈qmW σ1 σ2 l,s∈l
 |[],s,h=>h
 |x::l,s,h=>by
  simp only[qmW]at h;split at h
  ·rcases zam.1 h with rfl|h
   ·exact zai
   ·exact zae _ (qjZ l s h)
  ·exact zae _ (qjZ l s h)
theorem qlu {σ1 σ2:St}:(l:List Nat)→∀s∈qt8 σ1 σ2 l,s∈l
 |[],s,h=>by cases h
 |x::l,s,h=>by
  simp only[qt8]at h;split at h
  ·rcases zam.1 h with rfl|h
   ·exact zai
   ·exact zae _ (qlu l s h)
  ·exact zae _ (qlu l s h)
theorem qlO {b:Bool}{ds:List Nat}{σ1 σ2:St}{own:Nat→List Nat}(h:qac C (bif b then σ1 else σ2) tm w own) (h1:Fr ds σ σ1) (h2:Fr ds σ σ2):∃own',qac C (qsm b ds σ σ1 σ2) tm w own':=by
 have z1:=h1.trans (qhm (qmW σ1 σ2 ds) (qjZ _));have z2:=h2.trans (qhm (qmW σ2 σ1 ds) (qjZ _));cases b with
 |true=>
  obtain⟨own2,hst2⟩:=qg1 (qmW σ1 σ2 ds) h;exact⟨own2,qac.join (b:=true) hst2 z1 z2⟩
 |false=>
  obtain⟨own2,hst2⟩:=qg1 (qmW σ2 σ1 ds) h;exact⟨own2,qac.join (b:=false) hst2 z1 z2⟩
theorem qgF {b:Bool}{ds:List Nat}{σ1 σ2:St}{own:Nat→List Nat}(h:qac C (bif b then σ1 else σ2) tm w own) (h1:Fr ds σ σ1) (h2:Fr ds σ σ2):∃own',qac C (qme b ds σ σ1 σ2) tm w own':=by
 unfold qme;split
 ·exact qlO h h1 h2
 ·have z1:=h1.trans (qog (wr:=ds) (l0:=ds) (fun t ht=>ht) (qt8 σ1 σ2 ds) (σ:=σ1) (qlu ds));have z2:=h2.trans (qog (wr:=ds) (l0:=ds) (fun t ht=>ht) (qt8 σ2 σ1 ds) (σ:=σ2) (qlu ds));cases b with
  |true=>
   obtain⟨own2,hst2⟩:=qoq ds (qt8 σ1 σ2 ds) h;exact qlO (b:=true) hst2 z1 z2
  |false=>
   obtain⟨own2,hst2⟩:=qoq ds (qt8 σ2 σ1 ds) h;exact qlO (b:=false) hst2 z1 z2
theorem qgA {b:Bool}{ds wr:List Nat}{σ1 σ2:St}(h:∀s∈ds,s∈wr):Fr wr σ (qme b ds σ σ1 σ2):=by
 unfold qme;split
 ·exact qpu h
 ·exact qpu h
theorem qv3 (p:Nat×qeI) {σ:St}{own:Nat→List Nat}(h:qac C σ tm w own):∃own',qac C (fix1 p σ) tm w own':=by
 unfold fix1;split
 ·exact h.refit p.2 p.1
 ·exact⟨own,h⟩
theorem qmn (wr:List Nat):(l:List (Nat×qeI))→{σ:St}→{own:Nat→List Nat}→qac C σ tm w own→∃own',qac C (qqs wr l σ) tm w own'
 |[],_,own,h=>⟨own,h⟩
 |p::l,σ,own,h=>by
  obtain⟨own1,h1⟩:=qtZ wr p.1 h;obtain⟨own2,h2⟩:=qv3 p h1;exact qmn wr l h2
theorem qi1 {wr:List Nat}: {l:List (Nat×qeI)}→{σ:St}→(h:∀q∈l,q.1∈wr)→Fr wr σ (qqs wr l σ)
 |[],σ,_=>Fr.refl _ _
 |p::l,σ,h=>by
  have h1:Fr wr σ (qrE wr σ p.1):=qtY (fun t ht=>ht) (h p zai);have h2:Fr wr (qrE wr σ p.1) (fix1 p (qrE wr σ p.1)):=by
   unfold fix1;split
   ·exact qcB [⟨p.1,false,_⟩] fun u hu=>by
     rw[zat.1 hu];exact h p zai
   ·exact Fr.refl _ _
  exact(h1.trans h2).trans (qi1 fun q hq=>h q (zae _ hq))
theorem qgT {wr:List Nat}{ops:Array Oper}{s:Nat}{v:Bool}:(l:List Oper)→{σ σ':St}→{c c':List Bool}→{ds ds':List Nat}→qjI E wr ops s v l σ c ds=some (σ',c',ds')→
  Fr wr σ σ'∧(∀b∈c,b∈c')∧(∀x∈ds,x∈ds')∧Fr ds' σ σ'∧((∀x∈ds,x∈wr)→∀x∈ds',x∈wr)
 |[],σ,σ',c,c',ds,ds',he=>by
  simp only[qjI,zbg.injEq,zbh.injEq]at he;obtain⟨rfl,rfl,rfl⟩:=he;exact⟨Fr.refl _ _,fun _ h=>h,fun _ h=>h,Fr.refl _ _,fun h=>h⟩
 |o::r,σ,σ',c,c',ds,ds',he=>by
  simp only[qjI]at he;split at he
  ·cases he
  split at he
  ·cases he
  rename_i g hg;split at he
  ·cases he
  rename_i f hf;split at he;case isFalse=>cases he
  rename_i hu;obtain⟨h1,h3,h4,h5,h6⟩:=qgT r he;have hu':∀u∈f.upd,u.s∈wr:=fun u hm=>by
   have:=zaN.1 hu u hm;simp at this;exact this.1
  refine⟨(qcB f.upd hu').trans h1,fun b hb=>h3 b (zac _ hb),fun x hx=>h4 x (zac _ hx),(qcB f.upd fun u hm=>h4 _ (zab _ (zaR hm))).trans h5,fun hw=>h6 fun x hx=>?_⟩;rcases zaj.1 hx with hx|hx
  ·exact hw x hx
  ·obtain⟨u,hu1,rfl⟩:=zaS.1 hx;exact hu' u hu1
theorem qs0 (hE:qa2 E C.P) {pin:List Nat}(hF:qh9 E C pin) (hpc:qn8 C a.tmps) (h:qac C σ a.tmps w own) {ops:Array Oper}{g:Option (Nat×Bool)}(hg:qb3 ops o=some g) {s:Nat}{v:Bool}(hv:a.tmps.getD s undef=.bool v) {f:Eff}
  (he:(qsh E s v g o).run (qt σ)=some f) (hd:∀u∈f.upd,u.s<σ.length) (hc:qcT f.chk):GOpOk C ops o a w (qk σ f.upd):=by
 cases g with
 |none=>
  unfold qsh at he;simp only at he;split at he;case h_2=>exact qfF hE hF hpc h hg he hd hc
  rename_i c x y hop hgd;split at he;case isFalse=>exact qfF hE hF hpc h hg he hd hc
  rename_i hcs;subst hcs;obtain⟨x1,h1,he⟩:=Q.yb he;intro K Q1 hK;have hw:Region.wanted o (yielded ops a.tmps)=true:=by simp[Region.wanted,hgd]
  rw[if_pos hw];have hev:a.eval (.tmp c)=.bool v:=hv;have hx:(execOp a.eval o).run C.P w=.ok (.value (a.eval (bif v then x else y))) w:=by
   unfold execOp;rw[hop];simp only[hev];cases v<;>rfl
  exact qnV h (qaz h ⟨hpc,fun q hq=>by cases hq⟩ h1) (qo6 h h1) (qnc h1) hpc hF.pins he hd hx K Q1 hK
 |some q=>
  obtain⟨s',want⟩:=q;unfold qsh at he;simp only at he;split at he;case isFalse=>exact qfF hE hF hpc h hg he hd hc
  rename_i hs;subst hs;unfold qb3 at hg;split at hg
  ·cases hg
  rename_i j want' hgd;split at hg;case h_2=>cases hg
  rename_i s2 hj;injection hg with hg;injection hg with hg;injection hg with hg1 hg2;subst hg1;subst hg2;have hw:Region.wanted o (yielded ops a.tmps)=true↔a.tmps.getD s2 undef=.bool want':=by
   rw[←qns hj want'];simp[Region.wanted,hgd]
  intro K Q1 hK;split at he
  ·rename_i hwv;subst hwv;rw[if_pos (hw.2 hv)];obtain⟨f0,h0,he⟩:=Q.yb he;exact qnE h (fun hd hc=>qpV hE hF.fns hF.pins h ⟨hpc,fun q hq=>by cases hq⟩ h0 hd hc) he hd hc K Q1 hK
  ·rename_i hwv;rw[if_neg fun hh=>hwv (by
    have:=hw.1 hh;rw[hv]at this;injection this with this;exact this.symm)]
   have:=qI he;subst this;obtain⟨own',hst⟩:=h.dst0 (o:=o) (av:= .undef) (v:=undef) hd trivial (fun m hm=>by cases hm);exact hK _ _ own' (qfG o a _) hst
theorem qmI (hE:qa2 E C.P) {pin wr:List Nat}(hF:qh9 E C pin) {ops:Array Oper}{s:Nat}{v:Bool}{Q:Exit→Act→World→Prop}:(l:List Oper)→qeJ pin l=true→{σ σ':St}→{a:Act}→{w:World}→{own:Nat→List Nat}→{c c':List Bool}→{ds ds':List Nat}→
  qjI E wr ops s v l σ c ds=some (σ',c',ds')→qcT c'→qn8 C a.tmps→a.tmps.getD s undef=.bool v→qac C σ a.tmps w own→(∀a' w' own',qbW pin a a'→qac C σ' a'.tmps w' own'→Q .normal a' w')→wpList C.P ops Q l a w
 |[],_,σ,σ',a,w,own,c,c',ds,ds',he,_,_,_,h,hQ=>by
  simp only[qjI,zbg.injEq,zbh.injEq]at he;obtain⟨rfl,_,_⟩:=he;exact hQ a w own (qbW.refl _ _) h
 |o::r,hp,σ,σ',a,w,own,c,c',ds,ds',he,hc,hpc,hv,h,hQ=>by
  simp only[qeJ,List.all_cons,zad]at hp;simp only[qjI]at he;split at he
  ·cases he
  rename_i hds;split at he
  ·cases he
  rename_i g hg;split at he
  ·cases he
  rename_i f hf;split at he;case isFalse=>cases he
  rename_i hu;have hu':∀u∈f.upd,u.s<σ.length:=fun u hm=>by
   have:=zaN.1 hu u hm;simp at this;exact this.2
  obtain⟨_,h3,_,_,_⟩:=qgT r he;have hcf:qcT f.chk:=fun b hb=>hc b (h3 b (zab _ hb));have hok:=qs0 hE hF hpc h hg hv hf hu' hcf (wpList C.P ops Q r) Q fun a' w' own' hd hst=>by
   have hk:qbW pin a a':=⟨hd.1,fun s hs=>hd.2 s fun e=>qcS hp.1 s (by simp[e]) hs⟩;exact qmI hE hF r hp.2 he hc (hk.pinC hF hpc) ((hd.2 s hds).trans hv) hst fun a2 w2 own2 hd2 hst2=>hQ a2 w2 own2 (hd2.trans hk) hst2
  unfold wpList;split at hok
  ·rename_i hw;rw[if_pos hw];exact .inl hok
  ·rename_i hw;rw[if_neg hw];exact hok
theorem qi2 {wr:List Nat}{ops:Array Oper}:(l:List Oper)→{σ σ':St}→{c c':List Bool}→{fs fs':List qcL}→qbZ E wr ops l σ c fs=some (σ',c',fs')→(∀x∈fs.flatMap (·.wr),x∈wr)→∀x∈fs'.flatMap (·.wr),x∈wr
 |[],σ,σ',c,c',fs,fs',he,hw=>by
  simp only[qbZ,zbg.injEq,zbh.injEq]at he;obtain⟨rfl,rfl,rfl⟩:=he;exact hw
 |o::r,σ,σ',c,c',fs,fs',he,hw=>by
  simp only[qbZ]at he;split at he
  ·cases he
  split at he
  ·cases he
  rename_i f hf;split at he;case isFalse=>cases he
  rename_i hu;refine qi2 r he fun x hx=>?_;rw[List.flatMap_cons]at hx;rcases zaj.1 hx with hx|hx
  ·obtain⟨u,hu1,rfl⟩:=zaS.1 hx;have:=zaN.1 hu u hu1;simp at this;exact this.1
  ·exact hw x hx
theorem qi7 {b:Bool}{c d:List Bool}(h:qcT (ql7 b c d)):qcT (bif b then c else d):=by
 unfold ql7 at h;split at h
 ·cases b<;>exact fun x hx=>by cases hx
 ·have:=h _ (zat.2 rfl);cases b
  ·exact qlq this
  ·exact qlq this
theorem qpD {wr:List Nat}{ops:Array Oper}{i:Nat}{σ':St}{c:List Bool}{ds:List Nat}(he:qic E wr ops i σ=some (σ',c,ds)):Fr wr σ σ'∧Fr ds σ σ'∧∀s∈ds,s∈wr:=by
 unfold qic at he;split at he
 ·cases he
 rename_i σ1 c1 fs h1;split at he;case h_2=>cases he
 rename_i s want hg;split at he;case h_2=>cases he
 rename_i b hb;split at he;case h_2=>cases he
 rename_i σT cT dT σF cF dF hT hF;injection he with he;simp only[zbh.injEq]at he;obtain⟨rfl,rfl,rfl⟩:=he;obtain⟨k1,_,_,_,k5⟩:=qeS _ h1;obtain⟨_,_,_,_,t6⟩:=qgT _ hT;obtain⟨_,_,_,_,f6⟩:=qgT _ hF;have hsub:∀x∈dT++dF,x∈wr:=fun x hx=>by
  rcases zaj.1 hx with hx|hx
  ·exact t6 (fun x hx=>by cases hx) x hx
  ·exact f6 (fun x hx=>by cases hx) x hx
 refine⟨k1.trans (qgA hsub),(k5.mono fun x hx=>zac _ hx).trans (qgA fun x hx=>zab _ hx),fun x hx=>?_⟩;rcases zaj.1 hx with hx|hx
 ·exact qi2 _ h1 (fun x hx=>by cases hx) x hx
 ·exact hsub x hx
def qvq (E:Env) (ops:Array Oper) (s:Nat) (v:Bool) (σ:St) (l:List Oper) (fl:List qcL) (c:List Bool):Prop:=
 fl.length=l.length∧∀k o ft,l[k]? =some o→fl[k]? =some ft→o.dst≠some s∧∃g f,qb3 ops o=some g∧(qsh E s v g o).run (qt (qbU (fl.take k) σ))=some f∧ft= { rd:=(qsh E s v g o).log (qt (qbU (fl.take k) σ)),us:=f.upd } ∧(∀u∈f.upd,u.s<σ.length)∧∀b∈f.chk,b∈c
theorem qe1 {E:Env}{wr:List Nat}{ops:Array Oper}{s:Nat}{v:Bool}:(l:List Oper)→{σ σ':St}→{c c':List Bool}→{fs fs':List qcL}→qkE E wr ops s v l σ c fs=some (σ',c',fs')→
  ∃fl,fs'=fl.reverse++fs∧qvq E ops s v σ l fl c'∧σ'=qbU fl σ∧(∀b∈c,b∈c')∧∀f∈fl,∀x∈f.wr,x∈wr
 |[],σ,σ',c,c',fs,fs',he=>by
  simp only[qkE,zbg.injEq,zbh.injEq]at he;obtain⟨rfl,rfl,rfl⟩:=he;exact⟨[],rfl,⟨rfl,fun k o ft h=>by simp at h⟩,rfl,fun b h=>h,fun f hf=>by cases hf⟩
 |o::r,σ,σ',c,c',fs,fs',he=>by
  simp only[qkE]at he;split at he
  ·cases he
  rename_i hds;split at he
  ·cases he
  rename_i g hg;split at he
  ·cases he
  rename_i f hf;split at he;case isFalse=>cases he
  rename_i hu;obtain⟨fl,h1,⟨h2,h3⟩,h4,h5,h6⟩:=qe1 r he;have hu':∀u∈f.upd,u.s∈wr∧u.s<σ.length:=fun u hm=>by
   have:=zaN.1 hu u hm;simpa using this
  refine⟨⟨(qsh E s v g o).log (qt σ),f.upd⟩::fl,by rw[h1];simp,⟨by simp[h2],fun k o' ft hk hft=>?_⟩,by rw[h4];rfl,fun b hb=>h5 b (zac _ hb),fun f' hf'=>?_⟩
  ·cases k with
   |zero=>
    simp only[List.getElem?_cons_zero,zbg.injEq]at hk hft;subst hk;subst hft;exact⟨hds,g,f,hg,hf,rfl,fun u hu=>(hu' u hu).2,fun b hb=>h5 b (zab _ hb)⟩
   |succ k=>
    simp only[List.getElem?_cons_succ]at hk hft;obtain⟨q0,g',f',q1,q2,q3,q4,q5⟩:=h3 k o' ft hk hft;exact⟨q0,g',f',q1,q2,q3,fun u hu=>(by have:=q4 u hu;rwa [qO]at this),q5⟩
  ·rcases zam.1 hf' with rfl|hf'
   ·intro x hx;obtain⟨u,hu1,rfl⟩:=zaS.1 hx;exact(hu' u hu1).1
   ·exact h6 f' hf'
theorem qkg (l:List qcL) (σ:St):(n:Nat)→qbU (qpO n++l) σ=qbU l σ
 |0=>rfl
 |n+1=>by
  show qbU (qpO n++l) (qk σ [])=_;exact qkg l σ n
theorem qlL:(l:List qcL)→{σ:St}→{ds:List Nat}→(∀f∈l,∀x∈f.wr,x∈ds)→Fr ds σ (qbU l σ)
 |[],_,_,_=>Fr.refl _ _
 |f::l,σ,ds,h=>by
  refine Fr.trans (qcB f.us fun u hu=>h f zai _ (zaR hu)) ?_;exact qlL l fun f' hf'=>h f' (zae _ hf')
theorem qsG (hE:qa2 E C.P) {pin:List Nat}(hF:qh9 E C pin) {ops:Array Oper}{Q:Exit→Act→World→Prop}{fl:List qcL}{c:List Bool}{a0:Act}{s0 n0:Nat}{v0:Bool}(hp:qeJ pin ops.toList=true) (hlen:fl.length=ops.size)
  (hd:∀(i:Nat) (o:Oper) (ft:qcL),n0≤i→ops[i]? =some o→fl[i]? =some ft→o.dst≠some s0∧∃g f,qb3 ops o=some g∧(qsh E s0 v0 g o).run (qt (qbU (fl.take i) σ))=some f∧ft= { rd:=(qsh E s0 v0 g o).log (qt (qbU (fl.take i) σ)),us:=f.upd } ∧(∀u∈f.upd,u.s<σ.length)∧∀b∈f.chk,b∈c)
  (hg:qf7 ops.toList fl [] []=true) (hc:qcT c) (hpc:qn8 C a0.tmps)
  (hQ:∀a' w' own',qbW pin a0 a'→qac C (qbU fl σ) a'.tmps w' own'→Q .normal a' w'):∀(fuel:Nat) (listed:Array Bool) (a:Act) (w:World) (own:Nat→List Nat),listed.size=ops.size→listed.toList.countP (fun b=> !b)=fuel→qkj ops (fun i=>listed.getD i false)→(∀j,j<n0→listed.getD j false=true)→a.tmps.getD s0 undef=.bool v0→qbW pin a0 a→
   qac C (qbM (fun i=>listed.getD i false) 0 fl σ) a.tmps w own→wpAny C.P .any ops Q fuel listed a w:=by
 have full:∀ {listed:Array Bool},(∀i,i<ops.size→listed.getD i false=true)→qbM (fun i=>listed.getD i false) 0 fl σ=qbU fl σ:=by
  intro listed hall;have hb:=qcl fl 0 fl.length σ;rw[za5]at hb;rw[←hb];apply qj1
  ·rw[qaX,qaX]
  ·intro s;refine qcO fl 0 rfl rfl fun k g hg _=>?_;have:=(zao.1 hg).1;rw[hall (0+k) (by omega),decide_eq_true (by omega)]
 intro fuel;induction fuel with
 |zero=>
  intro listed a w own hs hcnt hcl hn0 hv hk hst;have hall:∀i,i<ops.size→listed.getD i false=true:=fun i hi=>qkI hcnt (by omega);refine⟨?_,hQ a w own hk (by rw[full hall]at hst;exact hst)⟩;cases hr:Region.ready .any ops listed with
  |nil=>rfl
  |cons i r=>
   obtain⟨h1,h2,_⟩:=qdO (ops:=ops) (listed:=listed) (i:=i) (by rw[hr];exact zai);have h3:=hall i h1;rw[zaA,zaF (by omega)]at h2 h3;simp only[Option.getD_some]at h2 h3;rw[h2]at h3;cases h3
 |succ fuel ih=>
  intro listed a w own hs hcnt hcl hn0 hv hk hst;refine⟨fun hr=>?_,fun i hi=>?_⟩
  ·have hall:∀i,i<ops.size→listed.getD i false=true:=by
    intro i;induction i using Nat.strongRecOn with
    |ind i ihi=>
     intro hi;cases hb:listed.getD i false with
     |true=>rfl
     |false=>
      have ho:ops[i]? =some ops[i]:=zaF hi;obtain⟨_,M,hM⟩:=qkp hg;obtain⟨q1,_,_⟩:=hM i _ _ ho (zaa (by omega));have hb':listed.getD i true=false:=by
       rw[zaA,zaF (by omega)]at hb⊢
       exact hb
      have:=qgo ho hb' fun j hj=>ihi j (q1 j hj) (by have:=q1 j hj;omega);rw[hr]at this;cases this
   exact hQ a w own hk (by rw[full hall]at hst;exact hst)
  ·obtain⟨h1,h2,o,ho,he⟩:=qdO hi;have hf:fl[i]? =some fl[i]:=zaa (by omega);have hn:listed.getD i false=false:=by
    rw[zaA,zaF (by omega)]at h2⊢
    exact h2
   have hni:n0≤i:=by
    rcases Nat.lt_or_ge i n0 with hlt|hge
    ·rw[hn0 i hlt]at hn;cases hn
    ·exact hge
   obtain⟨hds,g,f,k1,k2,k3,k4,k5⟩:=hd i o _ hni ho hf;have hui:(fl[i]).us=f.upd:=by rw[k3]
   have hrun:(qsh E s0 v0 g o).run (qt (qbM (fun i=>listed.getD i false) 0 fl σ))=some f:=by
    rw[←k2];refine Go.Vi.Q.run_congr _ fun s hs=>qih hg hcl ho hf hn he (.inl ?_);rw[k3];exact hs
   have hok:=qs0 hE hF (hk.pinC hF hpc) hst k1 hv hrun (fun u hu=>by rw[qaX];exact k4 u hu) (fun b hb=>hc b (k5 b hb)) (wpAny C.P .any ops Q fuel (listed.setIfInBounds i true)) Q fun a' w' own' hkd hst'=>?_
   ·unfold wpOp;rw[ho];simp only;split at hok
    ·rename_i hw;rw[if_pos hw];exact .inl hok
    ·rename_i hw;rw[if_neg hw];exact hok
   ·have hset:∀j,(listed.setIfInBounds i true).getD j false=if j=i then true else listed.getD j false:=by
     intro j;simp only[zaA,Array.getElem?_setIfInBounds];by_cases hj:j=i
     ·subst hj;simp[hs,h1]
     ·rw[if_neg (fun e=>hj e.symm),if_neg hj]
    refine ih _ a' w' own' (by simpa using hs) ?_ ?_ ?_ ((hkd.2 s0 hds).trans hv) ?_ ?_
    ·rw[Array.toList_setIfInBounds,List.countP_set (by simp;omega),hcnt];have hb:listed.toList[i]'(by simp;omega)=false:=by
      rw[zaA,zaF (by omega)]at hn;simpa using hn
     rw[hb];simp
    ·intro j oj hoj hSj k hkk;simp only[hset]at hSj⊢
     split
     ·rfl
     ·by_cases hji:j=i
      ·subst hji;rw[ho]at hoj;injection hoj with hoj;subst hoj;exact he k hkk
      ·rw[if_neg hji]at hSj;exact hcl j oj hoj hSj k hkk
    ·intro j hj;rw[hset];split
     ·rfl
     ·exact hn0 j hj
    ·refine qbW.trans ⟨hkd.1,fun s hs=>hkd.2 s fun e=>?_⟩ hk;have:=zaN.1 hp o (by have:=Array.mem_of_getElem? ho;simpa using this);exact qcS this s (by simp[e]) hs
    ·have e:=qmK (σ:=σ) hg (S':=fun j=>(listed.setIfInBounds i true).getD j false) hcl ho hf hn he (by simp[hset]) (fun j hj=>by simp[hset,hj]);rw[e];rw[hui];exact hst'
theorem qj5 {n:Nat}:(l:List Oper)→(k:Nat)→qmh n k l=true→∀i o,l[i]? =some o→(∀j∈qbP o,j<k+i)∧(k+i=0∨∃e∈qbP o,min (k+i) n≤e+1)
 |[],_,_,i,o,h=>by simp at h
 |o'::l,k,hf,i,o,h=>by
  simp only[qmh,zad,Bool.or_eq_true,beq_iff_eq,zaN,List.any_eq_true,decide_eq_true_eq]at hf;cases i with
  |zero=>
   simp only[List.getElem?_cons_zero,zbg.injEq]at h;subst h;exact⟨hf.1,hf.2.1⟩
  |succ i=>
   simp only[List.getElem?_cons_succ]at h;have:=qj5 l (k+1) hf.2.2 i o h;rw[show k+(i+1)=k+1+i from by omega];exact this
theorem qoL (hE:qa2 E C.P) {pin wr:List Nat}(hF:qh9 E C pin) {ops:Array Oper}{Q:Exit→Act→World→Prop}{n:Nat}(hn:n≤ops.size) (hfk:qmh n 0 ops.toList=true) (hp:qeJ pin ops.toList=true):(l:List Oper)→{j fuel:Nat}→l=(ops.toList.take n).drop j→{σ σ':St}→{a:Act}→{w:World}→{own:Nat→List Nat}→{c c':List Bool}→{fs fs':List qcL}→{listed:Array Bool}→
  j≤n→listed.size=ops.size→(∀k,k<ops.size→listed.getD k false=decide (k<j))→listed.toList.countP (fun b=> !b)=fuel→
  qbZ E wr ops l σ c fs=some (σ',c',fs')→qcT c'→qn8 C a.tmps→qac C σ a.tmps w own→
  (∀a' w' own' (listed':Array Bool) (fuel':Nat),qbW pin a a'→qac C σ' a'.tmps w' own'→listed'.size=ops.size→(∀k,k<ops.size→listed'.getD k false=decide (k<n))→listed'.toList.countP (fun b=> !b)=fuel'→wpAny C.P .any ops Q fuel' listed' a' w')→wpAny C.P .any ops Q fuel listed a w
 |[],j,fuel,hl,σ,σ',a,w,own,c,c',fs,fs',listed,hj,hs,hli,hcnt,he,_,_,h,hQ=>by
  simp only[qbZ,zbg.injEq,zbh.injEq]at he;obtain⟨rfl,_,_⟩:=he;have hjn:j=n:=by
   have:=congrArg List.length hl;simp only[List.length_nil,zap,zaf,zaI]at this;omega
  subst hjn;exact hQ a w own listed fuel (qbW.refl _ _) h hs hli hcnt
 |o::r,j,fuel,hl,σ,σ',a,w,own,c,c',fs,fs',listed,hj,hs,hli,hcnt,he,hc,hpc,h,hQ=>by
  have hlen:=congrArg List.length hl;simp only[zba,zap,zaf,zaI]at hlen;have hjn:j<n:=by omega
  have hjs:j<ops.size:=by omega
  have ho:ops[j]? =some o:=by
   have:(o::r)[0]? =((ops.toList.take n).drop j)[0]? :=by rw[hl]
   simp only[List.getElem?_cons_zero,zan,zbf,zal,if_pos hjn]at this;simpa using this.symm
  have hr:r=(ops.toList.take n).drop (j+1):=by
   have:(o::r).tail=((ops.toList.take n).drop j).tail:=by rw[hl]
   simpa[List.tail_drop]using this
  simp only[qbZ]at he;split at he
  ·cases he
  rename_i g hg;split at he
  ·cases he
  rename_i f hf;split at he;case isFalse=>cases he
  rename_i hu;have hu':∀u∈f.upd,u.s<σ.length:=fun u hm=>by
   have:=zaN.1 hu u hm;simp at this;exact this.2
  obtain⟨_,_,h3,_,_⟩:=qeS r he;have hcf:qcT f.chk:=fun b hb=>hc b (h3 b (zab _ hb));have hjl:listed.getD j false=false:=by rw[hli j hjs];exact decide_eq_false (zaW _)
  have hjl':listed.toList[j]'(by simp;omega)=false:=by
   rw[zaA,zaF (by omega)]at hjl;simpa using hjl
  have hfa:=qj5 ops.toList 0 hfk;have hrd:j∈Region.ready .any ops listed:=by
   refine qgo ho ?_ fun e hee=>?_
   ·rw[zaA,zaF (by omega)];simpa using hjl'
   ·have:=(hfa j o (by simpa using ho)).1 e hee;rw[hli e (by omega)];exact decide_eq_true (by omega)
  have honly:∀i∈Region.ready .any ops listed,i=j:=fun i hi=>by
   obtain⟨q1,q2,oi,q3,q4⟩:=qdO hi;have q2':listed.getD i false=false:=by
    rw[zaA,zaF (by omega)]at q2⊢
    exact q2
   rw[hli i q1]at q2';have hge:¬i<j:=of_decide_eq_false q2';rcases Nat.lt_trichotomy i j with hlt|heq|hgt
   ·exact absurd hlt hge
   ·exact heq
   ·rcases(hfa i oi (by simpa using q3)).2 with h0|⟨e,he1,he2⟩
    ·omega
    ·have hes:=(hfa i oi (by simpa using q3)).1 e he1;have:=q4 e he1;rw[hli e (by omega)]at this;have:=of_decide_eq_true this;omega
  have hpos:∃fuel',fuel=fuel'+1:=by
   cases fuel with
   |zero=>
    have:=qkI hcnt (i:=j) (by omega);rw[hjl]at this;cases this
   |succ m=>exact⟨m,rfl⟩
  obtain⟨fuel',rfl⟩:=hpos;refine⟨fun hnil=>(by rw[hnil]at hrd;cases hrd),fun i hi=>?_⟩;have:=honly i hi;subst this;have hset:∀k,(listed.setIfInBounds i true).getD k false=if k=i then true else listed.getD k false:=by
   intro k;simp only[zaA,Array.getElem?_setIfInBounds];by_cases hk:k=i
   ·subst hk;simp[hs,hjs]
   ·rw[if_neg (fun e=>hk e.symm),if_neg hk]
  have hok:=qfF hE hF hpc h hg hf hu' hcf (wpAny C.P .any ops Q fuel' (listed.setIfInBounds i true)) Q fun a' w' own' hd hst=>by
   have hk:qbW pin a a':=⟨hd.1,fun s hs=>hd.2 s fun e=>qcS (zaN.1 hp o (by have:=Array.mem_of_getElem? ho;simpa using this)) s (by simp[e]) hs⟩;refine qoL hE hF hn hfk hp r (j:=i+1) hr (by omega) (by simpa using hs) (fun k hk=>?_) ?_ he hc (hk.pinC hF hpc) hst fun a2 w2 own2 listed2 fuel2 hd2=>hQ a2 w2 own2 listed2 fuel2 (hd2.trans hk)
   ·rw[hset];by_cases hki:k=i
    ·subst hki;rw[if_pos rfl,decide_eq_true (by omega)]
    ·rw[if_neg hki,hli k hk];by_cases hlt:k<i
     ·rw[decide_eq_true hlt,decide_eq_true (by omega)]
     ·rw[decide_eq_false hlt,decide_eq_false (by omega)]
   ·rw[Array.toList_setIfInBounds,List.countP_set (by simp;omega),hcnt,hjl'];simp
  unfold wpOp;rw[ho];simp only;split at hok
  ·rename_i hw;rw[if_pos hw];exact .inl hok
  ·rename_i hw;rw[if_neg hw];exact hok
theorem qnT {wr:List Nat}{ops:Array Oper}{i:Nat}{σ':St}{c:List Bool}{ds:List Nat}(he:qgz E wr ops i σ=some (σ',c,ds)):Fr wr σ σ'∧Fr ds σ σ'∧∀s∈ds,s∈wr:=by
 unfold qgz at he;split at he
 ·cases he
 rename_i σ1 c1 fs h1;split at he;case h_2=>cases he
 rename_i s want hg;split at he;case h_2=>cases he
 rename_i b hb;split at he;case h_2=>cases he
 rename_i σT cT fT σF cF fF hT hFF;split at he;case isFalse=>cases he
 injection he with he;simp only[zbh.injEq]at he;obtain⟨rfl,rfl,rfl⟩:=he;obtain⟨k1,_,_,_,k5⟩:=qeS _ h1;obtain⟨flT,t1,_,_,_,t5⟩:=qe1 _ hT;obtain⟨flF,f1,_,_,_,f5⟩:=qe1 _ hFF;have hsub:∀x∈fT.flatMap (·.wr)++fF.flatMap (·.wr),x∈wr:=fun x hx=>by
  rcases zaj.1 hx with hx|hx
  ·obtain⟨f,hf,hxf⟩:=za2.1 hx;rw[t1]at hf;exact t5 f (by simpa using hf) x hxf
  ·obtain⟨f,hf,hxf⟩:=za2.1 hx;rw[f1]at hf;exact f5 f (by simpa using hf) x hxf
 refine⟨k1.trans (qgA hsub),(k5.mono fun x hx=>zac _ hx).trans (qgA fun x hx=>zab _ hx),fun x hx=>?_⟩;rcases zaj.1 hx with hx|hx
 ·exact qi2 _ h1 (fun x hx=>by cases hx) x hx
 ·exact hsub x hx
theorem qnK (hE:qa2 E C.P) {pin wr:List Nat}(hF:qh9 E C pin) {id:Nat}{ops:Array Oper}{i:Nat}{Q:Exit→Act→World→Prop}{σ':St}{c:List Bool}{ds:List Nat}(hp:qeJ pin ops.toList=true) (he:qgz E wr ops i σ=some (σ',c,ds)) (hc:qcT c) (hpc:qn8 C a.tmps) (h:qac C σ a.tmps w own)
  (hQ:∀a' w' own',qbW pin a a'→qac C σ' a'.tmps w' own'→Q .normal a' w'):(Code.region id ops true).wp C.P Q a w:=by
 unfold qgz at he;split at he
 ·cases he
 rename_i σ1 c1 fs h1;split at he;case h_2=>cases he
 rename_i s want hg;split at he;case h_2=>cases he
 rename_i b hb;split at he;case h_2=>cases he
 rename_i σT cT fT σF cF fF hT hFF;split at he;case isFalse=>cases he
 rename_i hcnd;simp only[zad]at hcnd;obtain⟨hfk,hdT,hdF⟩:=hcnd;injection he with he;simp only[zbh.injEq]at he;obtain⟨rfl,rfl,rfl⟩:=he;have hi:i<ops.size:=by
  rcases Nat.lt_or_ge i ops.size with hlt|hge
  ·exact hlt
  ·rw[Array.getElem?_eq_none hge]at hg;cases hg
 obtain⟨flT,t1,t2,t3,_,t5⟩:=qe1 _ hT;obtain⟨flF,f1,f2,f3,_,f5⟩:=qe1 _ hFF;have hch:qcT (bif b then cT else cF):=qi7 fun x hx=>hc x (zab _ hx);have eT:fT.reverse=flT:=by rw[t1];simp
 have eF:fF.reverse=flF:=by rw[f1];simp
 rw[eT]at hdT;rw[eF]at hdF;let dd:=fT.flatMap (·.wr)++fF.flatMap (·.wr);have z1:Fr dd σ1 σT:=by
  rw[t3];refine qlL _ fun f hf x hx=>zac _ (za2.2 ⟨f,?_,hx⟩);rw[t1];simpa using hf
 have z2:Fr dd σ1 σF:=by
  rw[f3];refine qlL _ fun f hf x hx=>zab _ (za2.2 ⟨f,?_,hx⟩);rw[f1];simpa using hf
 have half:∀(v:Bool) (fl:List qcL) (cc:List Bool) (a1:Act) (w1:World) (own1:Nat→List Nat) (listed:Array Bool) (fuel:Nat),qvq E ops s v σ1 (ops.toList.drop i) fl cc→qf7 ops.toList (qpO i++fl) [] []=true→qcT cc→qbW pin a a1→qac C σ1 a1.tmps w1 own1→a1.tmps.getD s undef=.bool v→listed.size=ops.size→(∀k,k<ops.size→listed.getD k false=decide (k<i))→listed.toList.countP (fun b=> !b)=fuel→
   (∀a' w' own',qbW pin a1 a'→qac C (qbU fl σ1) a'.tmps w' own'→Q .normal a' w')→wpAny C.P .any ops Q fuel listed a1 w1:=by
  intro v fl cc a1 w1 own1 listed fuel hkd hdg hcc hk1 hst1 hv hs hli hcnt hQ1;have hl:(qpO i++fl).length=ops.size:=by
   have:=hkd.1;simp only[zap,zaI]at this;simp only[qpO,zag,List.length_replicate];omega
  have hfa:=qj5 ops.toList 0 hfk;refine qsG (σ:=σ1) (fl:=qpO i++fl) (c:=cc) (a0:=a1) (s0:=s) (n0:=i) (v0:=v) hE hF hp hl (fun k o ft hk ho hft=>?_) hdg hcc (hk1.pinC hF hpc) (by rw[qkg];exact hQ1) fuel listed a1 w1 own1 hs hcnt (fun k o ho hS e hee=>?_) (fun k hk=>?_) hv (qbW.refl _ _) ?_
  ·have el:(qpO i).length=i:=by simp[qpO]
   rw[zaL (by omega),el]at hft;obtain⟨q0,g',f',q1,q2,q3,q4,q5⟩:=hkd.2 (k-i) o ft (by rw[zan,show i+(k-i)=k from by omega];simpa using ho) hft;have et:qbU ((qpO i++fl).take k) σ1=qbU (fl.take (k-i)) σ1:=by
    rw[List.take_append,el,zas (by omega),qkg]
   refine⟨q0,g',f',q1,?_,?_,q4,q5⟩
   ·rw[et];exact q2
   ·rw[et];exact q3
  ·have hks:k<ops.size:=(zav.1 ho).1;have hlt:=(hfa k o (by simpa using ho)).1 e hee;simp only[hli k hks,decide_eq_true_eq]at hS;show listed.getD e false=true;rw[hli e (by omega)];exact decide_eq_true (by omega)
  ·rw[hli k (by omega)];exact decide_eq_true hk
  ·have e0:qbM (fun k=>listed.getD k false) 0 (qpO i++fl) σ1=σ1:=by
    apply qj1
    ·rw[qaX]
    ·intro x;have:=qcO (S:=fun k=>listed.getD k false) (S':=fun _=>false) (qpO i++fl) 0 (σ:=σ1) (τ:=σ1) (s:=x) rfl rfl fun k g hgk hx=>?_
     ·rw[this,qg4]
     ·rw[zaM];have hkl:=(zao.1 hgk).1;rcases Nat.lt_or_ge k i with hlt|hge
      ·rw[zaP (by simp[qpO];omega)]at hgk;simp only[qpO,List.getElem?_replicate,if_pos hlt,zbg.injEq]at hgk;subst hgk;cases hx
      ·rw[hli k (by omega)];exact decide_eq_false (by omega)
   rw[e0];exact hst1
 refine wp_region_any hE.mixed (qoL hE hF (Nat.le_of_lt hi) hfk hp (ops.toList.take i) (j:=0) (by simp) (za6 _) (by simp) (fun k hk=>by simp[zaA,Array.getElem?_replicate,hk]) (by simp[List.countP_replicate]) h1 (fun x hx=>hc x (zac _ hx)) hpc h.drew fun a1 w1 own1 listed fuel hd1 hst1 hs hli hcnt=>?_);have hat:=hst1.at_ s;rw[hb]at hat;have hv:a1.tmps.getD s undef=.bool b:=qau.bool hat.2;cases b with
 |true=>
  refine half true flT cT a1 w1 own1 listed fuel t2 hdT hch hd1 hst1 hv hs hli hcnt fun a2 w2 own2 hd2 hst2=>?_;rw[←t3]at hst2;obtain⟨own3,hst3⟩:=qgF (b:=true) (ds:=dd) hst2 z1 z2;exact hQ a2 w2 own3 (hd2.trans hd1) hst3
 |false=>
  refine half false flF cF a1 w1 own1 listed fuel f2 hdF hch hd1 hst1 hv hs hli hcnt fun a2 w2 own2 hd2 hst2=>?_;rw[←f3]at hst2;obtain⟨own3,hst3⟩:=qgF (b:=false) (ds:=dd) hst2 z1 z2;exact hQ a2 w2 own3 (hd2.trans hd1) hst3
theorem qnz {wr sp:List Nat}{ops:Array Oper}{d:Bool}{σ':St}{c:List Bool}{ds:List Nat}(he:qj9 E wr sp ops d σ=some (σ',c,ds)):Fr wr σ σ'∧Fr ds σ σ'∧∀s∈ds,s∈wr:=by
 unfold qj9 at he;split at he
 ·obtain⟨h1,_,h3⟩:=qnM he;exact⟨h1,h3,qoB he⟩
 ·exact qpD he
 ·exact qnT he
theorem qmH (hE:qa2 E C.P) {pin wr:List Nat}(hF:qh9 E C pin) {ops:Array Oper}{Q:Exit→Act→World→Prop}(rest:List Oper):(l:List Oper)→qeJ pin l=true→{σ σ':St}→{a:Act}→{w:World}→{own:Nat→List Nat}→{c c':List Bool}→{fs fs':List qcL}→
  qbZ E wr ops l σ c fs=some (σ',c',fs')→qcT c'→qn8 C a.tmps→qac C σ a.tmps w own→(∀a' w' own',qbW pin a a'→qac C σ' a'.tmps w' own'→wpList C.P ops Q rest a' w')→wpList C.P ops Q (l++rest) a w
 |[],_,σ,σ',a,w,own,c,c',fs,fs',he,_,_,h,hQ=>by
  simp only[qbZ,zbg.injEq,zbh.injEq]at he;obtain⟨rfl,_,_⟩:=he;exact hQ a w own (qbW.refl _ _) h
 |o::r,hp,σ,σ',a,w,own,c,c',fs,fs',he,hc,hpc,h,hQ=>by
  simp only[qeJ,List.all_cons,zad]at hp;simp only[qbZ]at he;split at he
  ·cases he
  rename_i g hg;split at he
  ·cases he
  rename_i f hf;split at he;case isFalse=>cases he
  rename_i hu;have hu':∀u∈f.upd,u.s<σ.length:=fun u hm=>by
   have:=zaN.1 hu u hm;simp at this;exact this.2
  obtain⟨_,_,h3,_,_⟩:=qeS r he;have hcf:qcT f.chk:=fun b hb=>hc b (h3 b (zab _ hb));have hok:=qfF hE hF hpc h hg hf hu' hcf (wpList C.P ops Q (r++rest)) Q fun a' w' own' hd hst=>by
   have hk:qbW pin a a':=⟨hd.1,fun s hs=>hd.2 s fun e=>qcS hp.1 s (by simp[e]) hs⟩;exact qmH hE hF rest r hp.2 he hc (hk.pinC hF hpc) hst fun a2 w2 own2 hd2 hst2=>hQ a2 w2 own2 (hd2.trans hk) hst2
  show wpList C.P ops Q (o::(r++rest)) a w;unfold wpList;split at hok
  ·rename_i hw;rw[if_pos hw];exact .inl hok
  ·rename_i hw;rw[if_neg hw];exact hok
theorem qpx (hE:qa2 E C.P) {pin wr:List Nat}(hF:qh9 E C pin) {id:Nat}{ops:Array Oper}{i:Nat}{Q:Exit→Act→World→Prop}{σ':St}{c:List Bool}{ds:List Nat}(hp:qeJ pin ops.toList=true) (he:qic E wr ops i σ=some (σ',c,ds)) (hc:qcT c) (hpc:qn8 C a.tmps) (h:qac C σ a.tmps w own)
  (hQ:∀a' w' own',qbW pin a a'→qac C σ' a'.tmps w' own'→Q .normal a' w'):(Code.region id ops false).wp C.P Q a w:=by
 unfold qic at he;split at he
 ·cases he
 rename_i σ1 c1 fs h1;split at he;case h_2=>cases he
 rename_i s want hg;split at he;case h_2=>cases he
 rename_i b hb;split at he;case h_2=>cases he
 rename_i σT cT dT σF cF dF hT hFF;injection he with he;simp only[zbh.injEq]at he;obtain⟨rfl,rfl,rfl⟩:=he;have hsub:∀l:List Oper,(∀x∈l,x∈ops.toList)→qeJ pin l=true:=fun l hl=>zaN.2 fun x hx=>zaN.1 hp x (hl x hx);have hch:qcT (bif b then cT else cF):=qi7 fun x hx=>hc x (zab _ hx);have key:=qmH (Q:=Q) hE hF (ops.toList.drop i) (ops.toList.take i) (hsub _ fun x hx=>List.mem_of_mem_take hx) h1 (fun x hx=>hc x (zac _ hx)) hpc h fun a1 w1 own1 hd1 hst1=>by
  have hat:=hst1.at_ s;rw[hb]at hat;have hv:a1.tmps.getD s undef=.bool b:=qau.bool hat.2;have z1:=(qgT _ hT).2.2.2.1.mono (wr':=dT++dF) fun s hs=>zac _ hs;have z2:=(qgT _ hFF).2.2.2.1.mono (wr':=dT++dF) fun s hs=>zab _ hs;cases b with
  |true=>
   refine qmI hE hF _ (hsub _ fun x hx=>List.mem_of_mem_drop hx) hT hch (hd1.pinC hF hpc) hv hst1 fun a2 w2 own2 hd2 hst2=>?_;obtain⟨own3,hst3⟩:=qgF (b:=true) hst2 z1 z2;exact hQ a2 w2 own3 (hd2.trans hd1) hst3
  |false=>
   refine qmI hE hF _ (hsub _ fun x hx=>List.mem_of_mem_drop hx) hFF hch (hd1.pinC hF hpc) hv hst1 fun a2 w2 own2 hd2 hst2=>?_;obtain⟨own3,hst3⟩:=qgF (b:=false) hst2 z1 z2;exact hQ a2 w2 own3 (hd2.trans hd1) hst3
 rw[zaK]at key;exact wp_region_list key
theorem qnD (hE:qa2 E C.P) {pin wr sp:List Nat}(hF:qh9 E C pin) {id:Nat}{ops:Array Oper}{d:Bool}{Q:Exit→Act→World→Prop}{σ':St}{c:List Bool}{ds:List Nat}(hp:qeJ pin ops.toList=true) (he:qj9 E wr sp ops d σ=some (σ',c,ds)) (hc:qcT c) (hpc:qn8 C a.tmps) (h:qac C σ a.tmps w own)
  (hQ:∀a' w' own',qbW pin a a'→qac C σ' a'.tmps w' own'→Q .normal a' w'):(Code.region id ops d).wp C.P Q a w:=by
 unfold qj9 at he;split at he
 ·exact qob hE hF hp he hc hpc h hQ
 ·exact qpx hE hF hp he hc hpc h hQ
 ·exact qnK hE hF hp he hc hpc h hQ
theorem qt1 {frz:List (Nat×List Nat)}{wr:List Nat}{id:Nat}{ops:Array Oper}{d:Bool}{σ':St}{c:List Bool}{ds:List Nat}(he:regE E frz wr id ops d σ=some (σ',c,ds)):Fr wr σ σ'∧Fr ds σ σ'∧∀s∈ds,s∈wr:=by
 unfold regE at he;split at he
 ·exact qnz he
 ·rename_i fz _;split at he;case isFalse=>cases he
  rename_i hall;split at he;case h_2=>cases he
  rename_i σ1 c1 d1 h1;injection he with he;simp only[zbh.injEq]at he;obtain⟨rfl,rfl,rfl⟩:=he;obtain⟨g1,g3,g4⟩:=qnz h1;simp only[zad]at hall;have hsub:∀s∈qcn frz (some (id+3000000000))++qcn frz (some id),s∈wr:=fun s hs=>by
   have:=zaN.1 hall.1 s hs;simpa using this
  have hex:∀s∈qcn frz (some (id+2000000000)),s∈qcn frz (some (id+3000000000))++qcn frz (some id):=fun s hs=>by
   have:=zaN.1 hall.2 s hs;simpa using this
  have fz:∀W:List Nat,(∀s∈qcn frz (some (id+3000000000))++qcn frz (some id),s∈W)→Fr W σ (qlo (qcn frz (some (id+2000000000))) (qim (qcn frz (some id)) (quq (qcn frz (some (id+3000000000))) σ))):=fun W hW=>
   ((quT _ fun s hs=>hW s (zac _ hs)).trans (qhm _ fun s hs=>hW s (zab _ hs))).trans (ql4 _ fun s hs=>hW s (hex s hs))
  refine⟨(fz wr hsub).trans g1,(fz _ fun s hs=>zac _ hs).trans (g3.mono fun s hs=>zab _ hs),fun s hs=>?_⟩;rcases zaj.1 hs with hs|hs
  ·exact hsub s hs
  ·exact g4 s hs
theorem qt5 (hE:qa2 E C.P) {pin:List Nat}(hF:qh9 E C pin) {frz:List (Nat×List Nat)}{wr:List Nat}{id:Nat}{ops:Array Oper}{d:Bool}{Q:Exit→Act→World→Prop}{σ':St}{c:List Bool}{ds:List Nat}(hp:qeJ pin ops.toList=true) (he:regE E frz wr id ops d σ=some (σ',c,ds)) (hc:qcT c) (hpc:qn8 C a.tmps) (h:qac C σ a.tmps w own)
  (hQ:∀a' w' own',qbW pin a a'→qac C σ' a'.tmps w' own'→Q .normal a' w'):(Code.region id ops d).wp C.P Q a w:=by
 unfold regE at he;split at he
 ·exact qnD hE hF hp he hc hpc h hQ
 ·split at he;case isFalse=>cases he
  split at he;case h_2=>cases he
  rename_i σ1 c1 d1 h1;injection he with he;simp only[zbh.injEq]at he;obtain⟨rfl,rfl,rfl⟩:=he;obtain⟨own0,hst0⟩:=qu3 (qcn frz (some (id+3000000000))) h;obtain⟨own1,hst⟩:=qg1 (qcn frz (some id)) hst0;obtain⟨own2,hst2⟩:=ql2 (qcn frz (some (id+2000000000))) hst;exact qnD hE hF hp h1 hc hpc hst2 hQ
theorem qjj {frz:List (Nat×List Nat)}{wr:List Nat}:(c:Code)→{σ σ':St}→{ch:List Bool}→{ds:List Nat}→qr8 E frz wr c σ=some (σ',ch,ds)→Fr wr σ σ'∧Fr ds σ σ'∧∀s∈ds,s∈wr
 |.skip,σ,σ',ch,ds,he=>by
  simp only[qr8,zbg.injEq,zbh.injEq]at he;obtain⟨rfl,rfl,rfl⟩:=he;exact⟨Fr.refl _ _,Fr.refl _ _,fun s hs=>by cases hs⟩
 |.region _ ops d,σ,σ',ch,ds,he=>by
  exact qt1 he
 |.seq x y,σ,σ',ch,ds,he=>by
  simp only[qr8]at he;split at he;case h_2=>cases he
  rename_i σ1 c1 d1 h1;split at he;case h_2=>cases he
  rename_i σ2 c2 d2 h2;injection he with he;simp only[zbh.injEq]at he;obtain⟨rfl,rfl,rfl⟩:=he;obtain⟨g1,g2,g3⟩:=qjj x h1;obtain⟨k1,k2,k3⟩:=qjj y h2;refine⟨g1.trans k1,(g2.mono fun s hs=>zac _ hs).trans (k2.mono fun s hs=>zab _ hs),fun s hs=>?_⟩;rcases zaj.1 hs with hs|hs
  ·exact g3 s hs
  ·exact k3 s hs
 |.cond c x y,σ,σ',ch,ds,he=>by
  simp only[qr8]at he;split at he;case h_2=>cases he
  split at he;case h_2=>cases he
  rename_i σ1 c1 d1 σ2 c2 d2 h1 h2;injection he with he;simp only[zbh.injEq]at he;obtain⟨rfl,rfl,rfl⟩:=he;obtain⟨g1,g2,g3⟩:=qjj x h1;obtain⟨k1,k2,k3⟩:=qjj y h2;have hsub:∀s∈d1++d2,s∈wr:=fun s hs=>by
   rcases zaj.1 hs with hs|hs
   ·exact g3 s hs
   ·exact k3 s hs
  exact⟨qgA hsub,qgA fun s hs=>hs,hsub⟩
 |.label _,_,_,_,_,he=>by cases he
 |.block _ _,_,_,_,_,he=>by cases he
 |.loop _,_,_,_,_,he=>by cases he
 |.exit _,_,_,_,_,he=>by cases he
 |.goto _,_,_,_,_,he=>by cases he
 |.ret,_,_,_,_,he=>by cases he
theorem qms (hE:qa2 E C.P) {frz:List (Nat×List Nat)}{pin wr:List Nat}(hF:qh9 E C pin):(c:Code)→qit pin c=true→{σ σ':St}→{ch:List Bool}→{ds:List Nat}→{Q1:Exit→Act→World→Prop}→{a:Act}→{w:World}→{own:Nat→List Nat}→qr8 E frz wr c σ=some (σ',ch,ds)→qcT ch→qn8 C a.tmps→qac C σ a.tmps w own→
  (∀a' w' own',qbW pin a a'→qac C σ' a'.tmps w' own'→Q1 .normal a' w')→c.wp C.P Q1 a w
 |.skip,hp,σ,σ',ch,ds,Q1,a,w,own,he,_,hpc,h,hQ=>by
  simp only[qr8,zbg.injEq,zbh.injEq]at he;obtain⟨rfl,rfl,rfl⟩:=he;exact wp_skip (hQ a w own (qbW.refl _ _) h)
 |.region _ ops d,hp,σ,σ',ch,ds,Q1,a,w,own,he,hc,hpc,h,hQ=>qt5 hE hF hp he hc hpc h hQ
 |.seq x y,hp,σ,σ',ch,ds,Q1,a,w,own,he,hc,hpc,h,hQ=>by
  simp only[qr8]at he;split at he;case h_2=>cases he
  rename_i σ1 c1 d1 h1;split at he;case h_2=>cases he
  rename_i σ2 c2 d2 h2;injection he with he;simp only[zbh.injEq]at he;obtain⟨rfl,rfl,rfl⟩:=he;simp only[qit,zad]at hp;refine wp_seq (qms hE hF x hp.1 h1 (fun b hb=>hc b (zac _ hb)) hpc h fun a1 w1 own1 hd1 hst1=>?_);exact qms hE hF y hp.2 h2 (fun b hb=>hc b (zab _ hb)) (hd1.pinC hF hpc) hst1 fun a2 w2 own2 hd2 hst2=>hQ a2 w2 own2 (hd2.trans hd1) hst2
 |.cond c x y,hp,σ,σ',ch,ds,Q1,a,w,own,he,hc,hpc,h,hQ=>by
  simp only[qr8]at he;split at he;case h_2=>cases he
  rename_i b ow hb;split at he;case h_2=>cases he
  rename_i σ1 c1 d1 σ2 c2 d2 h1 h2;injection he with he;simp only[zbh.injEq]at he;obtain⟨rfl,rfl,rfl⟩:=he;have hch:=qi7 hc;simp only[qit,zad]at hp;have f1:=(qjj x h1).2.1.mono (wr':=d1++d2) fun s hs=>zac _ hs;have f2:=(qjj y h2).2.1.mono (wr':=d1++d2) fun s hs=>zab _ hs;refine wp_cond (qs9 hpc h hb) ?_;cases b with
  |true=>
   refine qms hE hF x hp.1 h1 hch hpc h fun a1 w1 own1 hd1 hst1=>?_;obtain⟨own2,hst2⟩:=qgF (b:=true) hst1 f1 f2;exact hQ a1 w1 own2 hd1 hst2
  |false=>
   refine qms hE hF y hp.2 h2 hch hpc h fun a1 w1 own1 hd1 hst1=>?_;obtain⟨own2,hst2⟩:=qgF (b:=false) hst1 f1 f2;exact hQ a1 w1 own2 hd1 hst2
 |.label _,_,_,_,_,_,_,_,_,_,he,_,_,_,_=>by cases he
 |.block _ _,_,_,_,_,_,_,_,_,_,he,_,_,_,_=>by cases he
 |.loop _,_,_,_,_,_,_,_,_,_,he,_,_,_,_=>by cases he
 |.exit _,_,_,_,_,_,_,_,_,_,he,_,_,_,_=>by cases he
 |.goto _,_,_,_,_,_,_,_,_,_,he,_,_,_,_=>by cases he
 |.ret,_,_,_,_,_,_,_,_,_,he,_,_,_,_=>by cases he
theorem qh5 {R:Type}{c:List Bool}{r:Option R}{x:R}(h:andThen c r=some x):qcT c∧r=some x:=by
 unfold andThen at h;split at h
 ·refine⟨fun b hb=>?_,h⟩;cases hb
 ·cases hc:qvO c with
  |true=>rw[hc]at h;exact⟨qlq hc,h⟩
  |false=>rw[hc]at h;cases h
structure KOk {R:Type}(C:Ctx) (pin:List Nat) (k:K R) (r:R) (wr:List Nat) (σ:St) (ds:Act) (Q1:Exit→Act→World→Prop):Prop where
 n:∀σ' a' w' own',Fr wr σ σ'→qbW pin ds a'→qac C σ' a'.tmps w' own'→k.n σ'=some r→Q1 .normal a' w'
 e:∀i σ' a' w' own',Fr wr σ σ'→qbW pin ds a'→qac C σ' a'.tmps w' own'→k.e i σ'=some r→Q1 (.exit i) a' w'
 r:∀σ' a' w' own',Fr wr σ σ'→qbW pin ds a'→qac C σ' a'.tmps w' own'→k.r σ'=some r→Q1 .ret a' w'
theorem KOk.fr {R:Type}{pin:List Nat}{k:K R}{r:R}{wr wr':List Nat}{ds ds':Act}{Q1:Exit→Act→World→Prop}(h:KOk C pin k r wr σ ds Q1) (hd:qbW pin ds ds') (hs:∀s∈wr',s∈wr) (hf:Fr wr σ τ):KOk C pin k r wr' τ ds' Q1:=
 ⟨fun σ' a' w' own' f g=>h.n σ' a' w' own' (hf.trans (f.mono hs)) (g.trans hd),fun i σ' a' w' own' f g=>h.e i σ' a' w' own' (hf.trans (f.mono hs)) (g.trans hd),fun σ' a' w' own' f g=>h.r σ' a' w' own' (hf.trans (f.mono hs)) (g.trans hd)⟩
theorem qn3 {σ:St}{s v:Nat}{a:AV}(h:qt σ s=(v,a)) (ha:a≠ .undef):σ.set s (v,a)=σ:=by
 have hl:s<σ.length:=qfv (by rw[h];exact ha);rw[←h];simp only[qt,zaz,zaa hl,Option.getD_some];exact List.set_getElem_self hl
theorem qdW {R:Type}:(l:List Nat)→(σ:St)→(k:St→Option R)→qf2 l σ k=k σ
 |[],_,_=>rfl
 |s::r,σ,k=>by
  unfold qf2;split
  ·rename_i v t x h;rw[qJ,qn3 h (fun h=>by cases h)];exact qdW r σ k
  ·rename_i v et e xs h;rw[qJ,qn3 h (fun h=>by cases h)];exact qdW r σ k
  ·rename_i v t x h;rw[qJ,qn3 h (fun h=>by cases h)];exact qdW r σ k
  ·exact qdW r σ k
def RunOk (C:Ctx) (E:Env) (N:Nat) (anns:qsi) {R:Type}(pin:List Nat) (r:R) (c:Code):Prop:=qit pin c=true→∀ {wr:List Nat}{σ:St}{k:K R}{Q1:Exit→Act→World→Prop}{a:Act}{w:World}{own:Nat→List Nat},
  qm4 E N anns c wr σ k=some r→qn8 C a.tmps→qac C σ a.tmps w own→KOk C pin k r wr σ a Q1→c.wp C.P Q1 a w
theorem quc (hE:qa2 E C.P) {N:Nat}{anns:qsi}{R:Type}{pin:List Nat}{r:R}(hF:qh9 E C pin) (c:Code):RunOk C E N anns pin r c∧∀x y,c=.seq x y→RunOk C E N anns pin r y:=by
 induction c with
 |skip=>
  refine⟨?_,fun _ _ e=>by cases e⟩;intro hp wr σ k Q1 a w own he hpc h hk;exact wp_skip (hk.n σ a w own (Fr.refl _ _) (qbW.refl _ _) h he)
 |region id ops d=>
  refine⟨?_,fun _ _ e=>by cases e⟩;intro hp wr σ k Q1 a w own he hpc h hk;simp only[qm4,qdW]at he;split at he;case h_2=>cases he
  rename_i σ1 c1 d1 h1;obtain⟨hc,he⟩:=qh5 he;exact qt5 hE hF hp h1 hc hpc h fun a1 w1 own1 hd1 hst1=>hk.n _ a1 w1 own1 (qt1 h1).1 hd1 hst1 he
 |seq x y ihx ihy=>
  refine⟨?_,fun x' y' e=>by cases e;exact ihy.1⟩;intro hp wr σ k Q1 a w own he hpc h hk;simp only[qit,zad]at hp;refine wp_seq (ihx.1 hp.1 he hpc h ⟨fun σ' a' w' own' f hd hst he'=>?_,fun i σ' a' w' own' f hd hst he'=>hk.e i σ' a' w' own' f hd hst he',fun σ' a' w' own' f hd hst he'=>hk.r σ' a' w' own' f hd hst he'⟩);exact ihy.1 hp.2 he' (hd.pinC hF hpc) hst (hk.fr hd (fun s hs=>hs) f)
 |cond c x y ihx ihy=>
  refine⟨?_,fun _ _ e=>by cases e⟩;intro hp wr σ k Q1 a w own he hpc h hk;simp only[qm4,qdW]at he;cases hamb:qwk c σ with
  |some wm=>
   obtain⟨w0,m⟩:=wm;simp only[qit,zad]at hp;obtain⟨b,hev,hbm⟩:∃b,a.eval c=.bool b∧(b=w0→m=true):=by
    unfold qwk at hamb;split at hamb;case h_2=>cases hamb
    rename_i t;split at hamb;case h_2=>cases hamb
    rename_i w1 m1 hat;injection hamb with hamb;injection hamb with e1 e2;subst e1;subst e2;have:=h.at_ t;rw[hat]at this;obtain⟨_,b,h1,h2⟩:=this;exact⟨b,h1,h2⟩
   simp only[hamb]at he;refine wp_cond hev ?_;cases m with
   |true=>
    simp only[cond_true,qh0]at he;split at he;case isFalse=>cases he
    rename_i hag;cases b with
    |true=>exact ihx.1 hp.1 he hpc h hk
    |false=>exact ihy.1 hp.2 (hag▸he) hpc h hk
   |false=>
    simp only[cond_false]at he;have hne:b≠w0:=fun e=>by cases hbm e
    cases b<;>cases w0<;>simp only at he<;>first|exact absurd rfl hne|exact ihx.1 hp.1 he hpc h hk|exact ihy.1 hp.2 he hpc h hk
  |none=>
  simp only[hamb]at he;split at he;case h_2=>cases he
  rename_i b ow hb;split at he
  ·split at he;case h_2=>cases he
   rename_i σ1 c1 d1 h1;obtain⟨hc,he⟩:=qh5 he;exact qms hE hF (.cond c x y) hp h1 hc hpc h fun a1 w1 own1 hd1 hst1=>hk.n _ a1 w1 own1 (qjj _ h1).1 hd1 hst1 he
  ·simp only[qit,zad]at hp;refine wp_cond (qs9 hpc h hb) ?_;cases b with
   |true=>exact ihx.1 hp.1 he hpc h hk
   |false=>exact ihy.1 hp.2 he hpc h hk
 |block id x ih=>
  refine⟨?_,fun _ _ e=>by cases e⟩;intro hp wr σ k Q1 a w own he hpc h hk;refine wp_block (ih.1 hp he hpc h ⟨fun σ' a' w' own' f hd hst he'=>hk.n σ' a' w' own' f hd hst he',fun i σ' a' w' own' f hd hst he'=>?_,fun σ' a' w' own' f hd hst he'=>hk.r σ' a' w' own' f hd hst he'⟩);simp only at he';by_cases hi:i=id
  ·rw[if_pos hi]at he';subst hi;simpa[Exit.inBlock]using hk.n σ' a' w' own' f hd hst he'
  ·rw[if_neg hi]at he';simpa[Exit.inBlock,hi]using hk.e i σ' a' w' own' f hd hst he'
 |exit id=>
  refine⟨?_,fun _ _ e=>by cases e⟩;intro hp wr σ k Q1 a w own he hpc h hk;exact wp_exit (hk.e id σ a w own (Fr.refl _ _) (qbW.refl _ _) h he)
 |ret=>
  refine⟨?_,fun _ _ e=>by cases e⟩;intro hp wr σ k Q1 a w own he hpc h hk;exact wp_ret (hk.r σ a w own (Fr.refl _ _) (qbW.refl _ _) h he)
 |loop x ih=>
  refine⟨?_,fun _ _ e=>by cases e⟩;intro hp wr σ k Q1 a w own he hpc h hk;simp only[qm4,qdW]at he;split at he;case h_2=>cases he
  rename_i A hA;split at he
  ·rename_i I hpat;split at he;case h_2=>cases he
   rename_i v0 kt vt rem cur0 hit0;split at he;case h_2=>cases he
   rename_i xr xb;split at he;case isFalse=>cases he
   rename_i hcond;obtain⟨hcond,l1,l2,l3⟩:=hcond;split at he;case h_2=>cases he
   rename_i p0 hp0;simp only[itOk,zad]at hcond;obtain⟨⟨⟨c1,c2⟩,c3⟩,c4,c5,c6,c7⟩:=hcond;have hsub:∀s∈A.wr,s∈wr:=fun s hs=>by
    have:=zaN.1 c1 s hs;simpa using this
   have hlive:∀q∈A.live,q.1∈A.wr:=fun q hq=>by
    have:=zaN.1 c2 q hq;simpa using this
   have hn:=qdT c3;have htn:I.tn∈A.wr:=by simpa using c4
   have htok:I.tok∈A.wr:=by simpa using c5
   have hitn:I.it∉A.wr:=by simpa using c6
   have hitw:I.it∈wr:=by simpa using c7
   let B:qib:= { A with wr:=I.it::A.wr };have hliveB:∀q∈B.live,q.1∈B.wr:=fun q hq=>zae _ (hlive q hq);have hsubB:∀s∈B.wr,s∈wr:=fun s hs=>by
    rcases zam.1 hs with rfl|hs
    ·exact hitw
    ·exact hsub s hs
   have hAB:∀s∈A.wr,s∈B.wr:=fun s hs=>zae _ hs;simp only[qit,zad]at hp;obtain⟨idr,opsr,hxr⟩:∃id ops,xr=.region id ops false:=by
    cases xr with
    |region id ops d=>cases d with
     |false=>exact⟨id,ops,rfl⟩
     |true=>cases hpat
    |_=>cases hpat
   subst hxr;obtain⟨own0,h0⟩:=qmn A.wr A.live h;have hit1:qt (qqs A.wr A.live σ) I.it=(v0,.itr kt vt rem cur0):=by rw[(qi1 hlive).2 I.it hitn];exact hit0
   have iter:∀ {τ:St}{a':Act}{w':World}{own':Nat→List Nat}{v:Nat}{rem:List (kt.den×vt.den)}{cur:Option (kt.den×vt.den)},qac C τ a'.tmps w' own'→qt τ I.it=(v,.itr kt vt rem cur)→∃b,a'.tmps.getD I.it undef=ptr b 0∧own' I.it=[b]∧qeK w' (C.free w' own') kt vt rem cur b:=fun hst hg=>by
    have:=hst.at_ I.it;rw[hg]at this;exact this
   obtain⟨b0,t1,t2,t3⟩:=iter h0 hit1;refine wp_loop_ghost (fun n a' w'=>∃q own' rem cur b,n=rem.length∧qac C (qdw B σ q) a'.tmps w' own'∧a'.tmps.getD I.it undef=ptr b 0∧own' I.it=[b]∧qeK w' (C.free w' own') kt vt rem cur b∧qbW pin a a'∧mapF (fun ih e rem' p=>qm4 E N anns xb A.wr (itS I A σ p (.itr kt vt rem' (some e)) true) { k with n:=fun σ'=>match qm3 A.live (qqs A.wr A.live σ')with
      |some q=>ih q
      |none=>none }) (fun p=>qm4 E N anns xb A.wr (itS I A σ p (.itr kt vt [] none) false) { k with n:=fun _=>none }) rem q=some r) rem.length ⟨p0,own0,rem,cur0,b0,rfl,qac.head (A:=B) (τ:=qqs A.wr A.live σ) h0 hliveB hn h.wf ((qi1 hlive).mono hAB) hp0,t1,t2,t3,qbW.refl _ _,he⟩ ?_
   rintro n a1 w1 ⟨q,own1,rem1,cur1,b1,hnl,hst,u1,u2,u3,hd1,hmap⟩;have hfr:Fr B.wr σ (qdw B σ q):=qmr (A:=B) (σ:=σ) hliveB hn q;have itfr:∀av bb,Fr B.wr σ (itS I A σ q av bb):=fun av bb=>hfr.trans (qcB _ fun u hu=>by
    have hu:u=⟨I.it,true,av⟩∨u=⟨I.tn,true,.undef⟩∨u=⟨I.tok,true,.val .bool bb⟩:=by simpa using hu
    rcases hu with rfl|rfl|rfl
    ·exact zai
    ·exact hAB _ htn
    ·exact hAB _ htok)
   have itat:∀av bb,∃v,qt (itS I A σ q av bb) I.it=(v,av):=fun av bb=>by
    have hne:∀u∈([⟨I.tn,true,.undef⟩,⟨I.tok,true,.val .bool bb⟩]:List U),u.s≠I.it:=fun u hu=>by
     have hu:u=⟨I.tn,true,.undef⟩∨u=⟨I.tok,true,.val .bool bb⟩:=by simpa using hu
     rcases hu with rfl|rfl
     ·exact fun e=>hitn (by rw[←e];exact htn)
     ·exact fun e=>hitn (by rw[←e];exact htok)
    have e1:itS I A σ q av bb=qk (qX (qdw B σ q) ⟨I.it,true,av⟩) [⟨I.tn,true,.undef⟩,⟨I.tok,true,.val .bool bb⟩]:=rfl;have hout:I.it∉([⟨I.tn,true,.undef⟩,⟨I.tok,true,.val .bool bb⟩]:List U).map (·.s):=fun hm=>by
     obtain⟨u,hu,e⟩:=zaS.1 hm;exact hne u hu e
    have hlen:(⟨I.it,true,av⟩:U).s<(qdw B σ q).length:=by
     show I.it<_;rw[hfr.1];exact l1
    exact⟨_,(congrArg (fun z=>qt z I.it) e1).trans ((qdQ _ hout).trans (qS (qdw B σ q) ⟨I.it,true,av⟩ hlen))⟩
   refine wp_seq (qvN (id:=idr) (ops:=opsr) (rest:=xb) hpat hp.1 hst hfr.1 l1 l2 l3 u1 u2 u3 (fun hr0 a2 w2 own2 hd2 hst2=>?_) (fun j hj a2 w2 own2 hd2 hst2=>?_))
   ·subst hr0;rw[quv]at hmap;refine ih.2 _ _ rfl hp.2 hmap ((hd2.trans hd1).pinC hF hpc) hst2 ⟨fun σ' a' w' own' f hd hst' he'=>(by cases he'),fun i σ' a' w' own' f hd hst' he'=>?_,fun σ' a' w' own' f hd hst' he'=>?_⟩
    ·exact hk.e i σ' a' w' own' (((itfr _ _).trans (f.mono hAB)).mono hsubB) (hd.trans (hd2.trans hd1)) hst' he'
    ·exact hk.r σ' a' w' own' (((itfr _ _).trans (f.mono hAB)).mono hsubB) (hd.trans (hd2.trans hd1)) hst' he'
   ·have hm:=qtb hmap (fun e=>by rw[e]at hj;cases hj) j hj;refine ih.2 _ _ rfl hp.2 hm ((hd2.trans hd1).pinC hF hpc) hst2 ⟨fun σ' a' w' own' f hd hst' he'=>?_,fun i σ' a' w' own' f hd hst' he'=>?_,fun σ' a' w' own' f hd hst' he'=>?_⟩
    ·simp only at he';split at he';case h_2=>cases he'
     rename_i q' hq';obtain⟨own3,hst3⟩:=qmn A.wr A.live hst';obtain⟨v3,hv3⟩:=itat (.itr kt vt (rem1.eraseIdx j) (some rem1[j])) true;have hg3:qt (qqs A.wr A.live σ') I.it=(v3,.itr kt vt (rem1.eraseIdx j) (some rem1[j])):=by rw[(qi1 hlive).2 I.it hitn,f.2 I.it hitn];exact hv3
     obtain⟨b3,s1,s2,s3⟩:=iter hst3 hg3;exact⟨_,by rw[hnl,List.length_eraseIdx_of_lt hj];omega,q',own3,rem1.eraseIdx j,_,b3,rfl,qac.head (A:=B) (τ:=qqs A.wr A.live σ') hst3 hliveB hn h.wf (((itfr _ _).trans (f.mono hAB)).trans ((qi1 hlive).mono hAB)) hq',s1,s2,s3,hd.trans (hd2.trans hd1),he'⟩
    ·exact hk.e i σ' a' w' own' (((itfr _ _).trans (f.mono hAB)).mono hsubB) (hd.trans (hd2.trans hd1)) hst' he'
    ·exact hk.r σ' a' w' own' (((itfr _ _).trans (f.mono hAB)).mono hsubB) (hd.trans (hd2.trans hd1)) hst' he'
  split at he;case isFalse=>cases he
  rename_i hcond;simp only[zad]at hcond;obtain⟨⟨c1,c2⟩,c3⟩:=hcond;split at he;case h_2=>cases he
  rename_i p0 hp0;have hsub:∀s∈A.wr,s∈wr:=fun s hs=>by
   have:=zaN.1 c1 s hs;simpa using this
  have hlive:∀q∈A.live,q.1∈A.wr:=fun q hq=>by
   have:=zaN.1 c2 q hq;simpa using this
  have hn:=qdT c3;obtain⟨own0,h0⟩:=qmn A.wr A.live h;refine wp_loop_ghost (fun n a' w'=>∃q own',qac C (qdw A σ q) a'.tmps w' own'∧qbW pin a a'∧qaf n (fun ih p=>qm4 E N anns x A.wr (qdw A σ p) { k with n:=fun σ'=>match qm3 A.live (qqs A.wr A.live σ')with
     |some q=>ih q
     |none=>none }) q=some r) N ⟨p0,own0,qac.head (τ:=qqs A.wr A.live σ) h0 hlive hn h.wf (qi1 hlive) hp0,qbW.refl _ _,he⟩ ?_
  rintro n a1 w1 ⟨q,own1,hst,hd1,hit⟩;cases n with
  |zero=>cases hit
  |succ n=>
   have hfr:=qmr (σ:=σ) hlive hn q;refine ih.1 hp hit (hd1.pinC hF hpc) hst ⟨fun σ' a' w' own' f hd hst' he'=>?_,fun i σ' a' w' own' f hd hst' he'=>?_,fun σ' a' w' own' f hd hst' he'=>?_⟩
   ·simp only at he';split at he';case h_2=>cases he'
    rename_i q' hq';obtain⟨own2,hst2⟩:=qmn A.wr A.live hst';exact⟨n,zbb n,q',own2,qac.head (τ:=qqs A.wr A.live σ') hst2 hlive hn h.wf ((hfr.trans f).trans (qi1 hlive)) hq',hd.trans hd1,he'⟩
   ·exact hk.e i σ' a' w' own' ((hfr.trans f).mono hsub) (hd.trans hd1) hst' he'
   ·exact hk.r σ' a' w' own' ((hfr.trans f).mono hsub) (hd.trans hd1) hst' he'
 |_=>
  refine⟨?_,fun _ _ e=>by cases e⟩;intro hp wr σ k Q1 a w own he hpc h hk;cases he
theorem qv4 (hE:qa2 E C.P) {N:Nat}{anns:qsi}{R:Type}{pin:List Nat}{r:R}(hF:qh9 E C pin) (c:Code):qit pin c=true→∀ {wr:List Nat}{σ:St}{k:K R}{Q1:Exit→Act→World→Prop}{a:Act}{w:World}{own:Nat→List Nat},
  qm4 E N anns c wr σ k=some r→qn8 C a.tmps→qac C σ a.tmps w own→KOk C pin k r wr σ a Q1→c.wp C.P Q1 a w:=(quc hE hF c).1
end
end Go.Vi
namespace Go.Vi
open Go.RowKit
section
variable {C:Ctx}{E:Env}{σ τ:St}{tm:Array Value}{a:Act}{w w':World}{own:Nat→List Nat}{o:Oper}{p:qg3} [Tabbed E C]
theorem qfu: {l:List (List Nat)}→l.flatten.Nodup→(∀i,(l.getD i []).Nodup)∧∀i j b,b∈l.getD i []→b∈l.getD j []→i=j
 |[],_=>⟨fun i=>by simp,fun i j b h=>by simp at h⟩
 |x::l,h=>by
  rw[zaX]at h;obtain⟨h1,h2,h3⟩:=zah.1 h;obtain⟨k1,k2⟩:=qfu h2;have mem:∀i b,b∈l.getD i []→b∈l.flatten:=fun i b hb=>by
   rw[zaz]at hb;cases hi:l[i]? with
   |none=>rw[hi]at hb;simp at hb
   |some y=>
    rw[hi]at hb;exact List.mem_flatten.2 ⟨y,zaU hi,by simpa using hb⟩
  refine⟨fun i=>?_,fun i j b hi hj=>?_⟩
  ·cases i with
   |zero=>simpa using h1
   |succ i=>simpa using k1 i
  ·cases i with
   |zero=>
    cases j with
    |zero=>rfl
    |succ j=>exact(h3 b (by simpa using hi) b (mem j b (by simpa using hj)) rfl).elim
   |succ i=>
    cases j with
    |zero=>exact(h3 b (by simpa using hj) b (mem i b (by simpa using hi)) rfl).elim
    |succ j=>rw[k2 i j b (by simpa using hi) (by simpa using hj)]
def qvf (L:Value):List PM→List Value→Prop
 |[],_=>True
 |.lsw _ _::ps,vs=>vs.headD undef=L∧qvf L ps vs.tail
 |_::ps,vs=>qvf L ps vs.tail
theorem qvf.tl {L:Value}{p:PM}{ps:List PM}{vs:List Value}{v:Value}{r:List Value}(h:qvf L (p::ps) vs) (e:vs=v::r):qvf L ps r:=by
 subst e;cases p<;>first|exact h.2|exact h
theorem qpq {L:Value}:(ps:List PM)→{vs:List Value}→(ps.all fun p=>match p with
  |.lsw _ _=>false
  |_=>true)=true→qvf L ps vs
 |[],_,_=>trivial
 |p::ps,vs,h=>by
  simp only[List.all_cons,zad]at h;have:=qpq (L:=L) ps (vs:=vs.tail) h.2;cases p<;>first|exact this|(cases h.1)
theorem quR {ps:List PM}{vs:List Value}(h:lsOne ps=true):qvf (vs.headD undef) ps vs:=by
 cases ps with
 |nil=>trivial
 |cons p ps=>
  have:=qpq (L:=vs.headD undef) ps (vs:=vs.tail) h;cases p<;>first|exact this|exact⟨rfl,this⟩
theorem qdM {X:Sit}{F:Nat→Prop}(hF:∀b,F b→b<X.w.heap.size→X.F b):(ps:List PM)→{x:PMs.den ps}→{vs:List Value}→{g i:List Nat}→qaq X.P X.w F ps x vs g i→qvf X.pn.ls ps vs→(g++i).Nodup→
  ∃owns:List (List Nat),owns.length=ps.length∧vs.length=ps.length∧(qbT ps x).length=ps.length∧owns.flatten.Nodup∧(∀b∈owns.flatten,b∈g++i)∧
   ∀k,k<ps.length→qax X (qt (qbT ps x) k).2 (vs.getD k undef) (owns.getD k [])∧(qt (qbT ps x) k).2.mentions=[]
 |[],x,vs,g,i,⟨h1,h2,h3⟩,_,_=>⟨[],rfl,by rw[h1];rfl,rfl,by simp,fun b hb=>by simp at hb,fun k hk=>by cases hk⟩
 |.val t::ps,x,vs,g,i,⟨v,r,h1,h2,h3⟩,hls,hn=>by
  obtain⟨owns,k1,k2,k3,k4,k5,k6⟩:=qdM hF ps h3 (hls.tl h1) hn;refine⟨[]::owns,by simp[k1],by rw[h1];simp[k2],by simp[qbT,k3],by simpa using k4,by simpa using k5,fun k hk=>?_⟩;cases k with
  |zero=>exact⟨⟨rfl,by rw[h1];exact h2.mono hF⟩,rfl⟩
  |succ k=>rw[h1];exact k6 k (by simpa using hk)
 |.nil et e::ps,x,vs,g,i,⟨r,h1,h3⟩,hls,hn=>by
  obtain⟨owns,k1,k2,k3,k4,k5,k6⟩:=qdM hF ps h3 (hls.tl h1) hn;refine⟨[]::owns,by simp[k1],by rw[h1];simp[k2],by simp[qbT,k3],by simpa using k4,by simpa using k5,fun k hk=>?_⟩;cases k with
  |zero=>exact⟨⟨rfl,by rw[h1];rfl⟩,rfl⟩
  |succ k=>rw[h1];exact k6 k (by simpa using hk)
 |.rd t::ps,x,vs,g,i,⟨ad,cs,r,h1,h2,h3,h4,h5,h6⟩,hls,hn=>by
  obtain⟨owns,k1,k2,k3,k4,k5,k6⟩:=qdM hF ps h6 (hls.tl h1) hn;refine⟨[]::owns,by simp[k1],by rw[h1];simp[k2],by simp[qbT,k3],by simpa using k4,by simpa using k5,fun k hk=>?_⟩;cases k with
  |zero=>exact⟨⟨rfl,ad,cs,by rw[h1];simp[Addr.add],hF _ h2 h3,h3,h4,h5.keep fun b hb hlt=>⟨hF b hb hlt,hlt,rfl⟩⟩,rfl⟩
  |succ k=>rw[h1];exact k6 k (by simpa using hk)
 |.ior et e::ps,x,vs,g,i,⟨v,r,i1,i2,h1,h2,h3,h4⟩,hls,hn=>by
  rw[h2]at hn;have hn':=zah.1 hn;have hni:=zah.1 hn'.2.1;have hn2:(g++i2).Nodup:=zah.2 ⟨hn'.1,hni.2.1,fun b hb b' hb'=>hn'.2.2 b hb b' (zab _ hb')⟩;obtain⟨owns,k1,k2,k3,k4,k5,k6⟩:=qdM hF ps h4 (hls.tl h1) hn2;refine⟨i1::owns,by simp[k1],by rw[h1];simp[k2],by simp[qbT,k3],?_,?_,fun k hk=>?_⟩
  ·rw[zaX];refine zah.2 ⟨hni.1,k4,fun b hb b' hb' e=>?_⟩;subst e;rcases zaj.1 (k5 b hb')with hm|hm
   ·exact hn'.2.2 b hm b (zac _ hb) rfl
   ·exact hni.2.2 b hb b hm rfl
  ·intro b hb;rw[zaX]at hb;rw[h2];rcases zaj.1 hb with hb|hb
   ·exact zab _ (zac _ hb)
   ·rcases zaj.1 (k5 b hb)with hm|hm
    ·exact zac _ hm
    ·exact zab _ (zab _ hm)
  ·cases k with
   |zero=>exact⟨by rw[h1];exact h3.own.keep (fun b hb hlt=>⟨hF b hb hlt,hlt,rfl⟩) (fun _ _ _=>rfl),rfl⟩
   |succ k=>rw[h1];exact k6 k (by simpa using hk)
 |.lsw et e::ps,x,vs,g,i,⟨v,r,i1,i2,h1,h2,h3,h3',h4⟩,hls,hn=>by
  rw[h2]at hn;have hn':=zah.1 hn;have hni:=zah.1 hn'.2.1;have hn2:(g++i2).Nodup:=zah.2 ⟨hn'.1,hni.2.1,fun b hb b' hb'=>hn'.2.2 b hb b' (zab _ hb')⟩;obtain⟨owns,k1,k2,k3,k4,k5,k6⟩:=qdM hF ps h4 (hls.tl h1) hn2;refine⟨i1::owns,by simp[k1],by rw[h1];simp[k2],by simp[qbT,k3],?_,?_,fun k hk=>?_⟩
  ·rw[zaX];refine zah.2 ⟨hni.1,k4,fun b hb b' hb' e=>?_⟩;subst e;rcases zaj.1 (k5 b hb')with hm|hm
   ·exact hn'.2.2 b hm b (zac _ hb) rfl
   ·exact hni.2.2 b hb b hm rfl
  ·intro b hb;rw[zaX]at hb;rw[h2];rcases zaj.1 hb with hb|hb
   ·exact zab _ (zac _ hb)
   ·rcases zaj.1 (k5 b hb)with hm|hm
    ·exact zac _ hm
    ·exact zab _ (zab _ hm)
  ·cases k with
   |zero=>exact⟨⟨by rw[h1];have:=hls.1;rw[h1]at this;exact this,by rw[h1];exact h3.keep (fun b hb hlt=>⟨hF b hb hlt,hlt,rfl⟩) (fun _ _ _=>rfl),fun ψ hψ=>by
     injection hψ with hψ;subst hψ;rw[h1];exact h3'.keep fun b hb hlt=>⟨hF b hb hlt,hlt,rfl⟩⟩,rfl⟩
   |succ k=>rw[h1];exact k6 k (by simpa using hk)
 |.fn ts us::ps,x,vs,g,i,⟨v,r,h1,h2,h3⟩,hls,hn=>by
  obtain⟨owns,k1,k2,k3,k4,k5,k6⟩:=qdM hF ps h3 (hls.tl h1) hn;refine⟨[]::owns,by simp[k1],by rw[h1];simp[k2],by simp[qbT,k3],by simpa using k4,by simpa using k5,fun k hk=>?_⟩;cases k with
  |zero=>exact⟨⟨rfl,by rw[h1];exact h2.keep fun b hb hlt=>⟨hF b hb hlt,hlt,rfl⟩⟩,rfl⟩
  |succ k=>rw[h1];exact k6 k (by simpa using hk)
 |.own et e::ps,x,vs,g,i,⟨v,r,g1,g2,h1,h2,h3,h4⟩,hls,hn=>by
  rw[h2,zaC]at hn;obtain⟨n1,n2,n3⟩:=zah.1 hn;obtain⟨owns,k1,k2,k3,k4,k5,k6⟩:=qdM hF ps h4 (hls.tl h1) n2;refine⟨g1::owns,by simp[k1],by rw[h1];simp[k2],by simp[qbT,k3],?_,?_,fun k hk=>?_⟩
  ·rw[zaX];exact zah.2 ⟨n1,k4,fun b hb b' hb'=>n3 b hb b' (k5 b' hb')⟩
  ·intro b hb;rw[zaX]at hb;rw[h2,zaC];rcases zaj.1 hb with hb|hb
   ·exact zac _ hb
   ·exact zab _ (k5 b hb)
  ·cases k with
   |zero=>exact⟨by rw[h1];exact h3.keep (fun b hb hlt=>⟨hF b hb hlt,hlt,rfl⟩) (fun _ _ _=>rfl),rfl⟩
   |succ k=>rw[h1];exact k6 k (by simpa using hk)
 |.io t::ps,x,vs,g,i,⟨b0,r,i2,cs,te,h1,h2,h3,h4,h5⟩,hls,hn=>by
  rw[h2]at hn;have hn':=zah.1 hn;have hni:=zax.1 hn'.2.1;have hn2:(g++i2).Nodup:=zah.2 ⟨hn'.1,hni.2,fun b hb b' hb'=>hn'.2.2 b hb b' (zae _ hb')⟩;obtain⟨owns,k1,k2,k3,k4,k5,k6⟩:=qdM hF ps h5 (hls.tl h1) hn2;refine⟨[b0]::owns,by simp[k1],by rw[h1];simp[k2],by simp[qbT,k3],?_,?_,fun k hk=>?_⟩
  ·rw[zaX];refine zah.2 ⟨by simp,k4,fun b hb b' hb' e=>?_⟩;simp at hb;subst hb;subst e;rcases zaj.1 (k5 b hb')with hm|hm
   ·exact hn'.2.2 b hm b zai rfl
   ·exact hni.1 hm
  ·intro b hb;rw[zaX]at hb;rw[h2];rcases zaj.1 hb with hb|hb
   ·simp at hb;subst hb;simp
   ·rcases zaj.1 (k5 b hb)with hm|hm
    ·exact zac _ hm
    ·exact zab _ (zae _ hm)
  ·cases k with
   |zero=>exact⟨⟨b0,cs,[],te,by rw[h1];rfl,h3,⟨rfl,h4.keep fun b hb hlt=>⟨hF b hb hlt,hlt,rfl⟩⟩,rfl⟩,rfl⟩
   |succ k=>rw[h1];exact k6 k (by simpa using hk)
 |.iob t::ps,x,vs,g,i,⟨b0,r,g1,g2,i2,cs,te,h1,h0,h2,h3,h4,h5⟩,hls,hn=>by
  subst h0;subst h2;have hp:((g1++g2)++b0::i2).Perm ((b0::g1)++(g2++i2)):=List.perm_iff_count.2 fun a=>by simp only[List.count_append,List.count_cons];omega
  have hn':=zah.1 (hp.nodup_iff.1 hn);obtain⟨owns,k1,k2,k3,k4,k5,k6⟩:=qdM hF ps h5 (hls.tl h1) hn'.2.1;refine⟨(b0::g1)::owns,by simp[k1],by rw[h1];simp[k2],by simp[qbT,k3],?_,?_,fun k hk=>?_⟩
  ·rw[zaX];exact zah.2 ⟨hn'.1,k4,fun b hb b' hb'=>hn'.2.2 b hb b' (k5 b' hb')⟩
  ·intro b hb;rw[zaX]at hb;refine hp.mem_iff.2 ?_;rcases zaj.1 hb with hb|hb
   ·exact zac _ hb
   ·exact zab _ (k5 b hb)
  ·cases k with
   |zero=>exact⟨⟨b0,cs,g1,te,by rw[h1];rfl,h3,h4.keep (fun b hb hlt=>⟨hF b hb hlt,hlt,rfl⟩) (fun _ _ _=>rfl),rfl⟩,rfl⟩
   |succ k=>rw[h1];exact k6 k (by simpa using hk)
theorem qhR {fn:Func}{ps:List PM}{x:PMs.den ps}{k:Nat}(hl:(qbT ps x).length=ps.length) (hk:k<ps.length):qt (qfN fn ps x) k=qt (qbT ps x) k:=by
 simp[qt,qfN,zaz,zaP (show k<(qbT ps x).length by omega)]
theorem qhq {fn:Func}{ps:List PM}{x:PMs.den ps}{k:Nat}(hl:(qbT ps x).length=ps.length) (hk:¬k<ps.length):qt (qfN fn ps x) k=(0,.undef):=by
 simp only[qt,qfN,zaz];rw[zaL (by omega),List.getElem?_replicate];split<;>rfl
theorem quS {pn:Pn}{P:Program}{F:Nat→Prop}{fn:Func}{ps:List PM}{x:PMs.den ps}{vs:List Value}{g i:List Nat}{T:qpF}(hT:qen T w fun b=>F b∧¬b∈g++i) (hlen:ps.length≤fn.ntmps) (hp:qaq P w F ps x vs g i) (hls:qvf pn.ls ps vs) (hpre:∀b∈g++i,¬F b∧b<w.heap.size) (hn:(g++i).Nodup):
  ∃own,qac { P,w0:=w,O:=fun b=>b∈g++i,G:=F,pn,T,hT } (qfN fn ps x) (vs.toArray++Array.replicate (fn.ntmps-vs.toArray.size) undef) w own:=by
 have base:∃owns:List (List Nat),owns.length=ps.length∧vs.length=ps.length∧(qbT ps x).length=ps.length∧owns.flatten.Nodup∧(∀b∈owns.flatten,b∈g++i)∧
   ∀k,k<ps.length→qax { P,ver:=fun s=>(qt (qfN fn ps x) s).1,tm:=fun s=>(vs.toArray++Array.replicate (fn.ntmps-vs.toArray.size) undef).getD s undef,w,F:=fun b=>F b,own:=fun _=>[],pn } (qt (qbT ps x) k).2 (vs.getD k undef) (owns.getD k [])∧(qt (qbT ps x) k).2.mentions=[]:=
  qdM (X:= { P,ver:=_,tm:=_,w,F:=fun b=>F b,own:=fun _=>[],pn }) (fun b hb _=>hb) ps hp hls hn
 obtain⟨owns,k1,k2,k3,k4,k5,k6⟩:=base;obtain⟨n1,n2⟩:=qfu k4;have mem:∀s b,b∈owns.getD s []→b∈g++i:=fun s b hb=>by
  refine k5 b ?_;rw[zaz]at hb;cases hi:owns[s]? with
  |none=>rw[hi]at hb;simp at hb
  |some y=>
   rw[hi]at hb;exact List.mem_flatten.2 ⟨y,zaU hi,by simpa using hb⟩
 have hsl:(qfN fn ps x).length=fn.ntmps:=by simp[qfN,k3];omega
 have hz:∀k,¬k<ps.length→owns.getD k []=[]:=fun k hk=>by
  rw[zaz,zaD (by omega)];rfl
 refine⟨fun s=>owns.getD s [],⟨?_,qbc.refl _ _,fun s b hb=>⟨.inl (mem s b hb),(hpre b (mem s b hb)).2⟩,n1,n2,fun s hs=>hz s (by omega),fun s hs=>?_,fun s m hm=>?_⟩⟩
 ·simp[hsl,k2];omega
 ·by_cases hk:s<ps.length
  ·rw[qhR k3 hk];obtain⟨h1,h2⟩:=k6 s hk;have e:(vs.toArray++Array.replicate (fn.ntmps-vs.toArray.size) undef).getD s undef=vs.getD s undef:=by
    rw[zaA,Array.getElem?_append_left (by simp[k2];exact hk),zaz];simp
   rw[e];refine qax.keep (X:= { P,ver:=fun s=>(qt (qfN fn ps x) s).1,tm:=fun s=>(vs.toArray++Array.replicate (fn.ntmps-vs.toArray.size) undef).getD s undef,w,F:=fun b=>F b,own:=fun _=>[],pn }) (X':=sit { P,w0:=w,O:=fun b=>b∈g++i,G:=F,pn,T,hT } (qfN fn ps x) (vs.toArray++Array.replicate (fn.ntmps-vs.toArray.size) undef) w (fun s=>owns.getD s [])) ⟨rfl,rfl⟩ (fun b hb hlt=>⟨⟨.inl hb,hlt,fun s' hs'=>(hpre b (mem s' b hs')).1 hb⟩,hlt,rfl⟩) (fun _ _ _=>rfl) (fun m hm=>by rw[h2]at hm;cases hm) h1
  ·rw[qhq k3 hk];trivial
 ·by_cases hk:s<ps.length
  ·rw[qhR k3 hk,(k6 s hk).2]at hm;cases hm
  ·rw[qhq k3 hk]at hm;cases hm
def qrB (tmps:Array Value):ResultVar→Sem Value
 |.tmp t=>pure (tmps.getD t undef)
 |.cell a t=>do loadVar t (←asAddr (tmps.getD a undef))
theorem qmq {P:Program}{t:Nat}{u:Ty}(h:TyB P t u) {ad:Addr}{cs:List Value}(hc:qfL w ad cs) (hl:cs.length=u.size):(loadVar t ad).run P w=.ok (mkV u cs) w:=by
 have:=qci (w:=w) h hc hl;simpa only[Instr.loadAt,Instr.sureAddr,Sem.run_bind,Sem.run_pure,Result.andThen_ok]using this
theorem qjK (hE:qa2 E C.P) (h:qac C σ tm w own):(r:RM)→{v:ResultVar}→{x:r.den×List Nat}→(qkX E r v).run (qt σ)=some x→∃z,(qrB tm v).run C.P w=.ok z w∧
  (match r,x with
   |.val t,x=>qau w (FW (sit C σ tm w own) x.2) t x.1 z
   |.nz e,x=>qau w (C.free w own) (.slice e) x.1 z∧(∀c,(nzC [.nz e] [v]).run (qt σ)=some c→qcT c→x.1=[]→z=.slice none 0 0)
   |.own et e,x=>∃s',x.2=[s']∧q8 w (C.free w own) et e x.1 z (own s')∧∃ys,(qt σ s').2=.own et e ys
   |.agg b,x=>∃s' bs,x.2=[s']∧qp5 w (C.free w own) (.agg (b.un x.1)) z bs∧(∀k∈bs,k∈own s'∧(∀c,(qt σ s').2=.box c→tm.getD s' undef≠ptr k 0))∧bs.Nodup)
 |.val t,.tmp s,x,he=>by
  simp only[qkX,Q.yd]at he;exact⟨tm.getD s undef,rfl,qc8 h (o:=⟨some s,(qt σ s).1,(qt σ s).2⟩) ⟨rfl,rfl,h.at_ s⟩ he⟩
 |.val u,.cell s t,x,he=>by
  simp only[qkX,Q.yd]at he;have hat:=h.at_ s;split at he;case h_2=>cases he
  rename_i c hc;split at he;case isFalse=>cases he
  rename_i hcond;split at he;case h_2=>cases he
  rename_i y f hg;have:=Q.yc he;subst this;obtain⟨b0,cs,bs',te,b1,b2,b3,b4⟩:=h.box (a:= { tmps:=tm,defers:=[] }) hc;obtain⟨q1,q2,q3⟩:=b3.get hg;have hcl:=b3.length;rw[zbe,zas (by omega)]at q2;rw[zbe,zas (by omega)]at q3;refine⟨mkV u cs,?_,qau.ofCells ?_⟩
  ·have hcs:qfL w ⟨b0,0,none⟩ cs:=by
    intro j u hj;rw[qL,qfw b2,zaM];exact hj
   have hl:=qmq (hE.ty t u hcond.1) hcs (by omega);have b1:tm.getD s undef=ptr b0 0:=b1;simp only[qrB,b1,ptr,asAddr,Sem.run_bind,Sem.run_pure,Result.andThen_ok];exact hl
  ·cases f with
   |false=>exact(q3 rfl).keep fun b hb hlt=>⟨.inl hb,hlt,rfl⟩
   |true=>
    refine q2.keep fun b hb hlt=>⟨?_,hlt,rfl⟩;rcases hb with hb|hb
    ·exact .inl hb
    ·refine .inr ⟨s,zat.2 rfl,by show b∈own s;rw[b4];exact zae _ hb,fun e=>?_⟩;have e:tm.getD s undef=ptr b 0:=e;have b1:tm.getD s undef=ptr b0 0:=b1;rw[b1]at e;have e:=(qcU e).1;subst e;have hn:=h.nodup s;rw[b4]at hn;exact(zax.1 hn).1 hb
 |.own et e,.tmp s,x,he=>by
  simp only[qkX,Q.yd]at he;have hat:=h.at_ s;split at he
  ·rename_i et' e' xs' h3;rw[h3]at hat;split at he
   ·rename_i het;subst het;split at he
    ·rename_i xs has;have:=Q.yc he;subst this;obtain⟨e1,e2⟩:=Ty.ye has;injection e1 with e1;subst e1;have e2:xs'=xs:=e2;subst e2;exact⟨_,rfl,s,rfl,hat,_,h3⟩
    ·cases he
   ·cases he
  ·rename_i s' v0 h3;rw[h3]at hat;simp only[Q.yd]at he;split at he
   ·rename_i hv;have hu:tm.getD s' undef=tm.getD s undef:=hat.2 hv;have hat':=h.at_ s';rw[hu]at hat';split at he
    ·rename_i et' e' xs' h4;rw[h4]at hat';split at he
     ·rename_i het;subst het;split at he
      ·rename_i xs has;have:=Q.yc he;subst this;obtain⟨e1,e2⟩:=Ty.ye has;injection e1 with e1;subst e1;have e2:xs'=xs:=e2;subst e2;exact⟨_,rfl,s',rfl,hat',_,h4⟩
      ·cases he
     ·cases he
    ·cases he
   ·cases he
  ·cases he
 |.own _ _,.cell _ _,x,he=>by cases he
 |.agg bb,.cell s t,x,he=>by
  simp only[qkX,Q.yd]at he;split at he;case h_2=>cases he
  rename_i c hc;split at he;case h_2=>cases he
  rename_i u y hu hy;split at he;case isFalse=>cases he
  rename_i hcond;have:=Q.yc he;subst this;obtain⟨b0,cs,bs',te,b1,b2,b3,b4⟩:=h.box (a:= { tmps:=tm,defers:=[] }) hc;have hcl:=b3.length;have hnd:=h.nodup s;rw[b4]at hnd;have hnd:=zax.1 hnd;have b1:tm.getD s undef=ptr b0 0:=b1;refine⟨mkV u cs,?_,s,bs',rfl,⟨cs,?_,BC.toShape_rep bb hy b3⟩,fun k hk=>⟨by rw[b4];exact zae _ hk,fun _ _ e=>?_⟩,hnd.2⟩
  ·have hcs:qfL w ⟨b0,0,none⟩ cs:=by
    intro j u hj;rw[qL,qfw b2,zaM];exact hj
   have hl:=qmq (hE.ty t u hu) hcs (by omega);simp only[qrB,b1,ptr,asAddr,Sem.run_bind,Sem.run_pure,Result.andThen_ok];exact hl
  ·simp[mkV,hcond.2]
  ·have:=(qcU (b1.symm.trans e)).1;subst this;exact hnd.1 hk
 |.agg bb,.tmp s,x,he=>by
  simp only[qkX,Q.yd]at he;have hat:=h.at_ s;split at he;case h_2=>cases he
  rename_i c h3;rw[h3]at hat;split at he;case h_2=>cases he
  rename_i y hy;have:=Q.yc he;subst this;obtain⟨cs,g1,g2⟩:=hat;exact⟨_,rfl,s,own s,rfl,⟨cs,g1,BC.toShape_rep bb hy g2⟩,fun k hk=>⟨hk,fun c hc=>by rw[h3]at hc;cases hc⟩,h.nodup s⟩
 |.nz _,.cell _ _,x,he=>by cases he
 |.nz e,.tmp s,x,he=>by
  simp only[qkX,Q.yd]at he;have hat:=h.at_ s;split at he
  ·rename_i et e' h3;rw[h3]at hat;have:=Q.yc he;subst this;have hat:_∧_:=hat;refine⟨_,rfl,?_,fun c _ _ _=>hat.2⟩;rw[hat.2];exact qau.ofSlice (.inl ⟨rfl,rfl⟩)
  ·rename_i e' xs h3;rw[h3]at hat;split at he;case h_2=>cases he
   rename_i ys has;have:=Q.yc he;subst this;obtain⟨e1,e2⟩:=Ty.ye has;injection e1 with e1;subst e1;have e2:xs=ys:=e2;subst e2;exact⟨_,rfl,hat.2.1,fun c _ _ h0=>hat.2.2 h0⟩
  ·rename_i e' xs h3;rw[h3]at hat;split at he;case h_2=>cases he
   rename_i ys has;have:=Q.yc he;subst this;obtain⟨e1,e2⟩:=Ty.ye has;injection e1 with e1;subst e1;have e2:xs=ys:=e2;subst e2;refine⟨_,rfl,hat.2,fun c hc hb h0=>?_⟩;simp only[nzC,Q.yd,h3]at hc;have:=Q.yc hc;subst this;have h0:xs=[]:=h0;subst h0;have:=hb _ (zat.2 rfl);rw[qmv,qp]at this;simp at this
  ·cases he
theorem qls (r:RM) (v:ResultVar) (rs:List RM) (vs:List ResultVar) {c:List Bool}(hc:(nzC (r::rs) (v::vs)).run (qt σ)=some c) (hb:qcT c):(∀c,(nzC [r] [v]).run (qt σ)=some c→qcT c)∧∃c2,(nzC rs vs).run (qt σ)=some c2∧qcT c2:=by
 have none:(nzC (r::rs) (v::vs)=nzC rs vs)→nzC [r] [v]=.ret []→(∀c,(nzC [r] [v]).run (qt σ)=some c→qcT c)∧∃c2,(nzC rs vs).run (qt σ)=some c2∧qcT c2:=fun e1 e2=>by
  rw[e1]at hc;refine⟨fun c h=>?_,c,hc,hb⟩;rw[e2]at h;have:=Q.yc h;subst this;intro b hb;cases hb
 cases r with
 |val t=>exact none rfl rfl
 |own et e=>exact none rfl rfl
 |agg b=>exact none rfl rfl
 |nz e=>
  cases v with
  |cell a t=>exact none rfl rfl
  |tmp s=>
   simp only[nzC,Q.yd]at hc⊢
   split at hc
   ·rename_i e' xs h3;obtain⟨c2,h1,h2⟩:=Q.yb hc;have:=Q.yc h2;subst this;refine⟨fun c h=>?_,c2,h1,fun b hm=>hb b (zae _ hm)⟩;have:=Q.yc (show(Q.ret [neI (qs xs) 0]).run (qt σ)=some c from h);subst this;intro b hm;exact hb b (by rw[zat.1 hm];exact zai)
   ·rename_i h3;refine⟨fun c h=>?_,c,hc,hb⟩;have:=Q.yc h;subst this;intro b hb;cases hb
theorem qgK (hE:qa2 E C.P) (h:qac C σ tm w own):(rs:List RM)→{vars:List ResultVar}→{q:RMs.den rs×List Nat×List Nat}→(qiP E rs vars).run (qt σ)=some q→(∃c,(nzC rs vars).run (qt σ)=some c∧qcT c)→∃(vs:List Value) (bs:List Nat),(vars.mapM (qrB tm)).run C.P w=.ok vs w∧
  qa3 w (FW (sit C σ tm w own) q.2.2) (qdd rs q.1) vs bs∧(∀b∈bs,∃s∈q.2.1,b∈own s)∧(q.2.1.Nodup→bs.Nodup)∧∀k∈bs,∀s∈q.2.1,k∈own s→∀c,(qt σ s).2=.box c→tm.getD s undef≠ptr k 0
 |[],[],q,he,_=>by
  have:=Q.yc he;subst this;exact⟨[],[],rfl,⟨rfl,rfl⟩,fun b hb=>(by cases hb),fun _=>zaH,fun k hk=>(by cases hk)⟩
 |.nz e::rs,v::vars,q,he,⟨c,hc,hb⟩=>by
  simp only[qiP]at he;obtain⟨x,h1,he⟩:=Q.yb he;obtain⟨q',h2,he⟩:=Q.yb he;have:=Q.yc he;subst this;obtain⟨n1,n2⟩:=qls _ _ _ _ hc hb;obtain⟨z,hz,hr,hr2⟩:=qjK hE h (.nz e) h1;obtain⟨vs,bs,k1,k2,k3,k4,k5⟩:=qgK hE h rs h2 n2;have hnz:∃c,(nzC [.nz e] [v]).run (qt σ)=some c:=by
   cases v with
   |cell a t=>exact⟨[],rfl⟩
   |tmp s=>
    simp only[nzC,Q.yd];split
    ·exact⟨_,rfl⟩
    ·exact⟨_,rfl⟩
  obtain⟨c0,hc0⟩:=hnz;refine⟨z::vs,bs,by simp only[List.mapM_cons,Sem.run_bind,hz,Result.andThen_ok,k1,Sem.run_pure],⟨_,_,[],bs,rfl,rfl,⟨rfl,hr.mono fun b hb _=>.inl hb,hr2 c0 hc0 (n1 c0 hc0)⟩,k2⟩,k3,k4,k5⟩
 |.val t::rs,v::vars,q,he,⟨c,hc,hb⟩=>by
  simp only[qiP]at he;obtain⟨x,h1,he⟩:=Q.yb he;obtain⟨q',h2,he⟩:=Q.yb he;have:=Q.yc he;subst this;obtain⟨z,hz,hr⟩:=qjK hE h (.val t) h1;obtain⟨vs,bs,k1,k2,k3,k4,k5⟩:=qgK hE h rs h2 (qls _ _ _ _ hc hb).2;refine⟨z::vs,bs,by simp only[List.mapM_cons,Sem.run_bind,hz,Result.andThen_ok,k1,Sem.run_pure],⟨_,_,[],bs,rfl,rfl,⟨rfl,hr.mono fun b hb _=>FW.mono (fun s hs=>zac _ hs) hb⟩,qa3.turn rs (.inr fun b hb _=>FW.mono (fun s hs=>zab _ hs) hb) k2⟩,k3,k4,k5⟩
 |.own et e::rs,v::vars,q,he,⟨c,hc,hb⟩=>by
  simp only[qiP]at he;obtain⟨x,h1,he⟩:=Q.yb he;obtain⟨q',h2,he⟩:=Q.yb he;have:=Q.yc he;subst this;obtain⟨z,hz,s',hx,hr,ys,hys⟩:=qjK hE h (.own et e) h1;obtain⟨vs,bs,k1,k2,k3,k4,k5⟩:=qgK hE h rs h2 (qls _ _ _ _ hc hb).2;refine⟨z::vs,own s'++bs,by simp only[List.mapM_cons,Sem.run_bind,hz,Result.andThen_ok,k1,Sem.run_pure],⟨_,_,own s',bs,rfl,rfl,hr.keep (fun b hb hlt=>⟨.inl hb,hlt,rfl⟩) (fun _ _ _=>rfl),k2⟩,fun b hb=>?_,fun hn=>?_,fun k hk s2 hs2 hko c2 hcc=>?_⟩
  ·rcases zaj.1 hb with hb|hb
   ·exact⟨s',by simp[hx],hb⟩
   ·obtain⟨s2,g1,g2⟩:=k3 b hb;exact⟨s2,zab _ g1,g2⟩
  ·simp only[hx]at hn;have hn':=zax.1 hn;refine zah.2 ⟨h.nodup s',k4 hn'.2,fun b hb b' hb' e=>?_⟩;subst e;obtain⟨s2,g1,g2⟩:=k3 b hb';have:=h.apart s' s2 b hb g2;subst this;exact hn'.1 g1
  ·have hmem:∃s3∈s'::q'.2.1,k∈own s3∧(s3=s'∨k∈bs):=by
    rcases zaj.1 hk with hk|hk
    ·exact⟨s',zai,hk,.inl rfl⟩
    ·obtain⟨s3,g1,g2⟩:=k3 k hk;exact⟨s3,zae _ g1,g2,.inr hk⟩
   obtain⟨s3,g1,g2,g3⟩:=hmem;have:=h.apart s2 s3 k hko g2;subst this;rcases g3 with rfl|g3
   ·rw[hys]at hcc;cases hcc
   ·obtain⟨s4,f1,f2⟩:=k3 k g3;have:=h.apart s2 s4 k hko f2;subst this;exact k5 k g3 s2 f1 hko c2 hcc
 |.agg bb::rs,v::vars,q,he,⟨c,hc,hb⟩=>by
  simp only[qiP]at he;obtain⟨x,h1,he⟩:=Q.yb he;obtain⟨q',h2,he⟩:=Q.yb he;have:=Q.yc he;subst this;obtain⟨z,hz,s',bz,hx,hr,hbz,hbn⟩:=qjK hE h (.agg bb) h1;obtain⟨vs,bs,k1,k2,k3,k4,k5⟩:=qgK hE h rs h2 (qls _ _ _ _ hc hb).2;obtain⟨cs,r1,r2⟩:=hr;refine⟨z::vs,bz++bs,by simp only[List.mapM_cons,Sem.run_bind,hz,Result.andThen_ok,k1,Sem.run_pure],⟨_,_,bz,bs,rfl,rfl,⟨cs,r1,r2.keep (fun b hb hlt=>⟨.inl hb,hlt,rfl⟩) (fun _ _ _=>rfl)⟩,k2⟩,fun b hb=>?_,fun hn=>?_,fun k hk s2 hs2 hko c2 hcc=>?_⟩
  ·rcases zaj.1 hb with hb|hb
   ·exact⟨s',by simp[hx],(hbz b hb).1⟩
   ·obtain⟨s2,g1,g2⟩:=k3 b hb;exact⟨s2,zab _ g1,g2⟩
  ·simp only[hx]at hn;have hn':=zax.1 hn;refine zah.2 ⟨hbn,k4 hn'.2,fun b hb b' hb' e=>?_⟩;subst e;obtain⟨s2,g1,g2⟩:=k3 b hb';have:=h.apart s' s2 b (hbz b hb).1 g2;subst this;exact hn'.1 g1
  ·rcases zaj.1 hk with hk|hk
   ·have:=h.apart s2 s' k hko (hbz k hk).1;subst this;exact(hbz k hk).2 c2 hcc
   ·obtain⟨s4,f1,f2⟩:=k3 k hk;have:=h.apart s2 s4 k hko f2;subst this;exact k5 k hk s2 f1 hko c2 hcc
 |[],_::_,_,he,_=>by cases he
 |.val _::_,[],_,he,_=>by cases he
 |.own _ _::_,[],_,he,_=>by cases he
 |.nz _::_,[],_,he,_=>by cases he
 |.agg _::_,[],_,he,_=>by cases he
def qcw (tm:Nat→Value):List PM→Nat→List Value→List Nat→Prop
 |[],_,_,i=>i=[]
 |.io _::ps,k,as,i=>∃b i2,i=b::i2∧tm k=ptr b 0∧qcw tm ps (k+1) as.tail i2
 |.iob _::ps,k,as,i=>∃b i2,i=b::i2∧tm k=ptr b 0∧qcw tm ps (k+1) as.tail i2
 |.ior _ _::ps,k,as,i=>∃i1 i2,i=i1++i2∧tm k=as.headD undef∧i1=(as.headD undef).ownBlock.toList∧qcw tm ps (k+1) as.tail i2
 |.lsw _ _::ps,k,as,i=>∃i1 i2,i=i1++i2∧tm k=as.headD undef∧i1=(qeb (as.headD undef)).ownBlock.toList∧qcw tm ps (k+1) as.tail i2
 |.val _::ps,k,as,i=>qcw tm ps (k+1) as.tail i
 |.own _ _::ps,k,as,i=>qcw tm ps (k+1) as.tail i
 |.fn _ _::ps,k,as,i=>qcw tm ps (k+1) as.tail i
 |.nil _ _::ps,k,as,i=>qcw tm ps (k+1) as.tail i
 |.rd _::ps,k,as,i=>qcw tm ps (k+1) as.tail i
theorem qcw.congr {tm tm':Nat→Value}:(ps:List PM)→(k:Nat)→{as:List Value}→{i:List Nat}→(∀s∈qbv ps k,tm' s=tm s)→qcw tm ps k as i→qcw tm' ps k as i
 |[],_,_,_,_,h=>h
 |.io _::ps,k,_,_,he,⟨b,i2,h1,h2,h3⟩=>⟨b,i2,h1,by rw[he k (by simp[qbv])];exact h2,h3.congr ps (k+1) fun s hs=>he s (by simp[qbv,hs])⟩
 |.iob _::ps,k,_,_,he,⟨b,i2,h1,h2,h3⟩=>⟨b,i2,h1,by rw[he k (by simp[qbv])];exact h2,h3.congr ps (k+1) fun s hs=>he s (by simp[qbv,hs])⟩
 |.ior _ _::ps,k,_,_,he,⟨i1,i2,h1,h2,h3,h4⟩=>⟨i1,i2,h1,by rw[he k (by simp[qbv])];exact h2,h3,h4.congr ps (k+1) fun s hs=>he s (by simp[qbv,hs])⟩
 |.lsw _ _::ps,k,_,_,he,⟨i1,i2,h1,h2,h3,h4⟩=>⟨i1,i2,h1,by rw[he k (by simp[qbv])];exact h2,h3,h4.congr ps (k+1) fun s hs=>he s (by simp[qbv,hs])⟩
 |.val _::ps,k,_,_,he,h=>qcw.congr ps (k+1) he h
 |.own _ _::ps,k,_,_,he,h=>qcw.congr ps (k+1) he h
 |.fn _ _::ps,k,_,_,he,h=>qcw.congr ps (k+1) he h
 |.nil _ _::ps,k,_,_,he,h=>qcw.congr ps (k+1) he h
 |.rd _::ps,k,_,_,he,h=>qcw.congr ps (k+1) he h
theorem qcw.boxes {tm:Nat→Value}:(ps:List PM)→(k:Nat)→{as:List Value}→{i:List Nat}→qcw tm ps k as i→∃ib:List Nat,(qct ps k).map tm=ib.map (fun b=>ptr b 0)
 |[],_,_,_,_=>⟨[],rfl⟩
 |.io _::ps,k,_,_,⟨b,i2,h1,h2,h3⟩=>by
  obtain⟨ib,hib⟩:=h3.boxes ps (k+1);exact⟨b::ib,by simp[qct,h2,hib]⟩
 |.iob _::ps,k,_,_,⟨b,i2,h1,h2,h3⟩=>by
  obtain⟨ib,hib⟩:=h3.boxes ps (k+1);exact⟨b::ib,by simp[qct,h2,hib]⟩
 |.ior _ _::ps,k,_,_,⟨i1,i2,h1,h2,h3,h4⟩=>by
  obtain⟨ib,hib⟩:=h4.boxes ps (k+1);exact⟨ib,by simp[qct,hib]⟩
 |.lsw _ _::ps,k,_,_,⟨i1,i2,h1,h2,h3,h4⟩=>by
  obtain⟨ib,hib⟩:=h4.boxes ps (k+1);exact⟨ib,by simp[qct,hib]⟩
 |.val _::ps,k,_,_,h=>qcw.boxes ps (k+1) h
 |.own _ _::ps,k,_,_,h=>qcw.boxes ps (k+1) h
 |.fn _ _::ps,k,_,_,h=>qcw.boxes ps (k+1) h
 |.nil _ _::ps,k,_,_,h=>qcw.boxes ps (k+1) h
 |.rd _::ps,k,_,_,h=>qcw.boxes ps (k+1) h
theorem qcs:(ps:List PM)→(k:Nat)→∀s∈qct ps k,s∈qbv ps k
 |[],_,_,h=>h
 |.io _::ps,k,s,h=>by
  rcases zam.1 h with rfl|h
  ·simp[qbv]
  ·simp[qbv,qcs ps (k+1) s h]
 |.iob _::ps,k,s,h=>by
  rcases zam.1 h with rfl|h
  ·simp[qbv]
  ·simp[qbv,qcs ps (k+1) s h]
 |.ior _ _::ps,k,s,h=>by simp[qbv,qcs ps (k+1) s h]
 |.lsw _ _::ps,k,s,h=>by simp[qbv,qcs ps (k+1) s h]
 |.val _::ps,k,s,h=>qcs ps (k+1) s h
 |.own _ _::ps,k,s,h=>qcs ps (k+1) s h
 |.fn _ _::ps,k,s,h=>qcs ps (k+1) s h
 |.nil _ _::ps,k,s,h=>qcs ps (k+1) s h
 |.rd _::ps,k,s,h=>qcs ps (k+1) s h
theorem qdL (h:qac C σ a.tmps w own):(ps:List PM)→(k:Nat)→{z:PMs.ioDen ps}→{as:List Value}→{i:List Nat}→(qfS ps k).run (qt σ)=some z→
  qcw (fun s=>a.tmps.getD s undef) ps k as i→∃js:List Nat,js.Nodup∧(∀F:Nat→Prop,(∀b s c,k≤s→s∈qbv ps k→(qt σ s).2=.box c→b∈(own s).tail→b∉js→F b)→(∀b,C.free w own b→F b)→qc5 w F ps z as i js)∧
   (∀b∈i,∃s,b∈own s∧((a.tmps.getD s undef=ptr b 0∧∃c,(qt σ s).2=.box c)∨(s∈qch ps k∧∀c,(qt σ s).2≠ .box c)))∧
   ∀b∈js,∃s,k≤s∧b∈own s∧s∈qch ps k∧(∃c,(qt σ s).2=.box c)∧a.tmps.getD s undef≠ptr b 0
 |[],k,z,as,i,_,hi=>by
  have hi:i=[]:=hi;subst hi;exact⟨[],zaH,fun _ _ _=>⟨rfl,rfl⟩,fun b hb=>(by cases hb),fun b hb=>(by cases hb)⟩
 |.val _::ps,k,z,as,i,he,hi=>by
  obtain⟨js,n,g0,g1,g2⟩:=qdL h ps (k+1) (z:=z) he hi;exact⟨js,n,fun F hF hF0=>g0 F (fun b s c hk hp=>hF b s c (by omega) (by simp only[qbv];exact hp)) hF0,g1,fun b hb=>by
   obtain⟨s,q1,q2⟩:=g2 b hb;exact⟨s,by omega,q2⟩⟩
 |.own _ _::ps,k,z,as,i,he,hi=>by
  obtain⟨js,n,g0,g1,g2⟩:=qdL h ps (k+1) (z:=z) he hi;exact⟨js,n,fun F hF hF0=>g0 F (fun b s c hk hp=>hF b s c (by omega) (by simp only[qbv];exact hp)) hF0,g1,fun b hb=>by
   obtain⟨s,q1,q2⟩:=g2 b hb;exact⟨s,by omega,q2⟩⟩
 |.fn _ _::ps,k,z,as,i,he,hi=>by
  obtain⟨js,n,g0,g1,g2⟩:=qdL h ps (k+1) (z:=z) he hi;exact⟨js,n,fun F hF hF0=>g0 F (fun b s c hk hp=>hF b s c (by omega) (by simp only[qbv];exact hp)) hF0,g1,fun b hb=>by
   obtain⟨s,q1,q2⟩:=g2 b hb;exact⟨s,by omega,q2⟩⟩
 |.nil _ _::ps,k,z,as,i,he,hi=>by
  obtain⟨js,n,g0,g1,g2⟩:=qdL h ps (k+1) (z:=z) he hi;exact⟨js,n,fun F hF hF0=>g0 F (fun b s c hk hp=>hF b s c (by omega) (by simp only[qbv];exact hp)) hF0,g1,fun b hb=>by
   obtain⟨s,q1,q2⟩:=g2 b hb;exact⟨s,by omega,q2⟩⟩
 |.rd _::ps,k,z,as,i,he,hi=>by
  obtain⟨js,n,g0,g1,g2⟩:=qdL h ps (k+1) (z:=z) he hi;exact⟨js,n,fun F hF hF0=>g0 F (fun b s c hk hp=>hF b s c (by omega) (by simp only[qbv];exact hp)) hF0,g1,fun b hb=>by
   obtain⟨s,q1,q2⟩:=g2 b hb;exact⟨s,by omega,q2⟩⟩
 |.ior et e::ps,k,z,as,i,he,⟨i1,i2,p1,p2,p3,p4⟩=>by
  simp only[qfS,Q.yd]at he;split at he;case h_2=>cases he
  rename_i et' e' xs hx;split at he;case isFalse=>cases he
  rename_i hty;obtain⟨hty,hmk⟩:=hty;subst hty;split at he;case h_2=>cases he
  rename_i x hs;obtain⟨r,h1,he⟩:=Q.yb he;have:=Q.yc he;subst this;obtain⟨e1,e2⟩:=Ty.ye hs;injection e1 with e1;subst e1;have e2:xs=x:=e2;subst e2;obtain⟨js,hjn,g1,g2,g3⟩:=qdL h ps (k+1) h1 p4;have hat:=h.at_ k;rw[hx,show a.tmps.getD k undef=as.headD undef from p2]at hat;have hown:qcd w (C.free w own) et e' xs (as.headD undef) (own k):=q8.toRow hmk hat;have hb:own k=i1:=by
   obtain⟨_,cells,_,hb,_⟩:=hown;rw[hb,p3]
  refine⟨js,hjn,fun F hF hF0=>⟨i1,i2,p1,?_,g1 F (fun b s c hk hp=>hF b s c (by omega) (by simp only[qbv];exact zae _ hp)) hF0⟩,fun b hbm=>?_,fun b hb=>?_⟩
  ·rw[hb]at hown;exact hown.keep (fun b hb hlt=>⟨hF0 b hb,hlt,rfl⟩) (fun _ _ _=>rfl)
  ·rw[p1]at hbm;rcases zaj.1 hbm with hbm|hbm
   ·exact⟨k,by rw[hb];exact hbm,.inr ⟨by simp[qch],fun c hc=>by rw[hx]at hc;cases hc⟩⟩
   ·obtain⟨s,q1,q2⟩:=g2 b hbm;refine⟨s,q1,q2.imp id fun ⟨q3,q4⟩=>⟨by simp[qch,q3],q4⟩⟩
  ·obtain⟨s,q0,q1,q2,q3⟩:=g3 b hb;exact⟨s,by omega,q1,by simp[qch,q2],q3⟩
 |.lsw et e::ps,k,z,as,i,he,⟨i1,i2,p1,p2,p3,p4⟩=>by
  simp only[qfS,Q.yd]at he;split at he;case h_2=>cases he
  rename_i et' e' xs φ hx;split at he;case isFalse=>cases he
  rename_i hty;obtain⟨hty,hty2⟩:=hty;subst hty;subst hty2;obtain⟨r,h1,he⟩:=Q.yb he;have:=Q.yc he;subst this;obtain⟨js,hjn,g1,g2,g3⟩:=qdL h ps (k+1) h1 p4;have hat:=h.at_ k;rw[hx,show a.tmps.getD k undef=as.headD undef from p2]at hat;have hown:qcd w (C.free w own) et' e' xs (qeb (as.headD undef)) (own k):=hat.2.1;have hb:own k=i1:=by
   obtain⟨_,cells,_,hb,_⟩:=hown;rw[hb,p3]
  refine⟨js,hjn,fun F hF hF0=>⟨i1,i2,p1,?_,g1 F (fun b s c hk hp=>hF b s c (by omega) (by simp only[qbv];exact zae _ hp)) hF0⟩,fun b hbm=>?_,fun b hb=>?_⟩
  ·rw[hb]at hown;exact hown.keep (fun b hb hlt=>⟨hF0 b hb,hlt,rfl⟩) (fun _ _ _=>rfl)
  ·rw[p1]at hbm;rcases zaj.1 hbm with hbm|hbm
   ·exact⟨k,by rw[hb];exact hbm,.inr ⟨by simp[qch],fun c hc=>by rw[hx]at hc;cases hc⟩⟩
   ·obtain⟨s,q1,q2⟩:=g2 b hbm;refine⟨s,q1,q2.imp id fun ⟨q3,q4⟩=>⟨by simp[qch,q3],q4⟩⟩
  ·obtain⟨s,q0,q1,q2,q3⟩:=g3 b hb;exact⟨s,by omega,q1,by simp[qch,q2],q3⟩
 |.io t::ps,k,z,as,i,he,⟨b,i2,p1,p2,p3⟩=>by
  subst p1;simp only[qfS,Q.yd]at he;split at he;case h_2=>cases he
  rename_i c hc;split at he;case h_2=>cases he
  rename_i x fl hg;split at hg;case isFalse=>cases hg
  rename_i hsz;obtain⟨r,h1,he⟩:=Q.yb he;have:=Q.yc he;subst this;obtain⟨b0,cs,bs',te,b1,b2,b3,b4⟩:=h.box hc;have hb:b0=b:=(qcU (b1.symm.trans p2)).1;subst hb;obtain⟨js,hjn,g1,g2,g3⟩:=qdL h ps (k+1) h1 p3;obtain⟨q1,q2,_⟩:=b3.get hg;have hcl:=b3.length;rw[zbe,zas (by omega)]at q2;refine⟨js,hjn,fun F hF hF0=>⟨b0,i2,cs,te,rfl,b2,q2.keep fun b hb hlt=>⟨?_,hlt,rfl⟩,g1 F (fun b s c hk hp=>hF b s c (by omega) (by simp only[qbv];exact zae _ hp)) hF0⟩,fun b hb=>?_,fun b hb=>?_⟩
  ·rcases hb with hb|hb
   ·exact hF0 b hb
   ·refine hF b k c (zay _) (by simp[qbv]) hc (by rw[b4];exact hb) fun hj=>?_;obtain⟨s,r0,r1,_⟩:=g3 b hj;have:=h.apart s k b r1 (by rw[b4];exact zae _ hb);omega
  ·rcases zam.1 hb with rfl|hb
   ·exact⟨k,by rw[b4];exact zai,.inl ⟨b1,c,hc⟩⟩
   ·exact g2 b hb
  ·obtain⟨s,q0,q1,q2,q3⟩:=g3 b hb;exact⟨s,by omega,q1,by simpa[qch]using q2,q3⟩
 |.iob t::ps,k,z,as,i,he,⟨b,i2,p1,p2,p3⟩=>by
  subst p1;simp only[qfS,Q.yd]at he;split at he;case h_2=>cases he
  rename_i c hc;split at he;case h_2=>cases he
  rename_i x hg;obtain⟨r,h1,he⟩:=Q.yb he;have:=Q.yc he;subst this;obtain⟨b0,cs,bs',te,b1,b2,b3,b4⟩:=h.box hc;have hb:b0=b:=(qcU (b1.symm.trans p2)).1;subst hb;obtain⟨js,hjn,g1,g2,g3⟩:=qdL h ps (k+1) h1 p3;have hnd:=h.nodup k;rw[b4]at hnd;have hnd:=zax.1 hnd;obtain⟨j1,q1,q2⟩:=b3.fit t hnd.2 hg;have hk:∀b∈j1,b∈own k:=fun b hb=>by rw[b4];exact zae _ (q1.subset hb)
  have hjk:∀b∈own k,b∉js:=fun b hb hj=>by
   obtain⟨s,r0,r1,_⟩:=g3 b hj;have:=h.apart s k b r1 hb;omega
  refine⟨j1++js,zah.2 ⟨hnd.2.sublist q1,hjn,fun b hb b' hb' e=>hjk b (hk b hb) (e▸hb')⟩,fun F hF hF0=>⟨b0,i2,j1,js,cs,te,rfl,rfl,b2,q2 F hF0 fun k' hk' hkn=>?_,g1 F (fun b s c' hks hps hc' hb hnj=>?_) hF0⟩,fun b hb=>?_,fun b hb=>?_⟩
  ·refine hF k' k c (zay _) (by simp[qbv]) hc (by rw[b4];exact hk') fun hm=>?_;rcases zaj.1 hm with hm|hm
   ·exact hkn hm
   ·exact hjk k' (by rw[b4];exact zae _ hk') hm
  ·by_cases hj:b∈j1
   ·have:=h.apart s k b (List.mem_of_mem_tail hb) (hk b hj);omega
   ·exact hF b s c' (by omega) (by simp only[qbv];exact zae _ hps) hc' hb fun hm=>(zaj.1 hm).elim hj hnj
  ·rcases zam.1 hb with rfl|hb
   ·exact⟨k,by rw[b4];exact zai,.inl ⟨b1,c,hc⟩⟩
   ·obtain⟨s,r1,r2⟩:=g2 b hb;exact⟨s,r1,r2.imp id fun ⟨q3,q4⟩=>⟨by simp[qch,q3],q4⟩⟩
  ·rcases zaj.1 hb with hb|hb
   ·refine⟨k,zay _,hk b hb,by simp[qch],⟨c,hc⟩,fun e=>?_⟩;have e2:a.tmps.getD k undef=ptr b0 0:=b1;have:=(qcU (e2.symm.trans e)).1;subst this;exact hnd.1 (q1.subset hb)
   ·obtain⟨s,r0,r1,r2,r3⟩:=g3 b hb;exact⟨s,by omega,r1,by simp[qch,r2],r3⟩
end
end Go.Vi
namespace Go.Vi
open Go.RowKit
theorem qpJ {P:Program}{w:World}{fn:Func}{tmps:Array Value}{vs:List Value}(h:(fn.results.toList.mapM (qrB tmps)).run P w=.ok vs w):(results fn tmps).run P w=Result.ok (qfD vs) w:=by
 have e:results fn tmps=(do
   let vs ←fn.results.mapM (qrB tmps)
   pure (if h:vs.size=1 then vs[0]else .tuple vs)):=rfl
 rw[e,Array.mapM_eq_mapM_toList];simp only[Sem.run_bind,Sem.run_map,h,Result.andThen_ok,Sem.run_pure];congr 1;match vs with
 |[]=>rfl
 |[v]=>rfl
 |v::u::r=>simp[qfD]
theorem qc0 {P:Program}{w:World}{F:Nat→Prop}(tm:Nat→Value):(ps:List PM)→(k:Nat)→{x:PMs.den ps}→{vs:List Value}→{g i:List Nat}→qaq P w F ps x vs g i→(∀j,j<ps.length→tm (k+j)=vs.getD j undef)→qcw tm ps k vs i
 |[],k,x,vs,g,i,⟨_,_,h3⟩,_=>h3
 |.val t::ps,k,x,vs,g,i,⟨v,r,h1,h2,h3⟩,ht=>by
  subst h1;exact qc0 tm ps (k+1) h3 fun j hj=>by
   have:=ht (j+1) (by simpa using hj);rw[show k+1+j=k+(j+1)from by omega];simpa using this
 |.nil _ _::ps,k,x,vs,g,i,⟨r,h1,h3⟩,ht=>by
  subst h1;exact qc0 tm ps (k+1) h3 fun j hj=>by
   have:=ht (j+1) (by simpa using hj);rw[show k+1+j=k+(j+1)from by omega];simpa using this
 |.rd _::ps,k,x,vs,g,i,⟨_,_,r,h1,_,_,_,_,h3⟩,ht=>by
  subst h1;exact qc0 tm ps (k+1) h3 fun j hj=>by
   have:=ht (j+1) (by simpa using hj);rw[show k+1+j=k+(j+1)from by omega];simpa using this
 |.fn _ _::ps,k,x,vs,g,i,⟨v,r,h1,h2,h3⟩,ht=>by
  subst h1;exact qc0 tm ps (k+1) h3 fun j hj=>by
   have:=ht (j+1) (by simpa using hj);rw[show k+1+j=k+(j+1)from by omega];simpa using this
 |.own _ _::ps,k,x,vs,g,i,⟨v,r,g1,g2,h1,h2,h3,h4⟩,ht=>by
  subst h1;exact qc0 tm ps (k+1) h4 fun j hj=>by
   have:=ht (j+1) (by simpa using hj);rw[show k+1+j=k+(j+1)from by omega];simpa using this
 |.ior _ _::ps,k,x,vs,g,i,⟨v,r,i1,i2,h1,h2,h3,h4⟩,ht=>by
  subst h1;have h0:tm k=v:=by simpa using ht 0 (by simp)
  refine⟨i1,i2,h2,h0,?_,qc0 tm ps (k+1) h4 fun j hj=>?_⟩
  ·obtain⟨_,cells,_,hb,_⟩:=h3;exact hb
  ·have:=ht (j+1) (by simpa using hj);rw[show k+1+j=k+(j+1)from by omega];simpa using this
 |.lsw _ _::ps,k,x,vs,g,i,⟨v,r,i1,i2,h1,h2,h3,_,h4⟩,ht=>by
  subst h1;have h0:tm k=v:=by simpa using ht 0 (by simp)
  refine⟨i1,i2,h2,h0,?_,qc0 tm ps (k+1) h4 fun j hj=>?_⟩
  ·obtain⟨_,cells,_,hb,_⟩:=h3;exact hb
  ·have:=ht (j+1) (by simpa using hj);rw[show k+1+j=k+(j+1)from by omega];simpa using this
 |.iob t::ps,k,x,vs,g,i,⟨b,r,g1,g2,i2,cs,te,h1,h0,h2,h3,h4,h5⟩,ht=>by
  subst h1;have h0:tm k=ptr b 0:=by simpa using ht 0 (by simp)
  refine⟨b,i2,h2,h0,qc0 tm ps (k+1) h5 fun j hj=>?_⟩;have:=ht (j+1) (by simpa using hj);rw[show k+1+j=k+(j+1)from by omega];simpa using this
 |.io t::ps,k,x,vs,g,i,⟨b,r,i2,cs,te,h1,h2,h3,h4,h5⟩,ht=>by
  subst h1;have h0:tm k=ptr b 0:=by simpa using ht 0 (by simp)
  refine⟨b,i2,h2,h0,qc0 tm ps (k+1) h5 fun j hj=>?_⟩;have:=ht (j+1) (by simpa using hj);rw[show k+1+j=k+(j+1)from by omega];simpa using this
end Go.Vi
