import Derived.Test.YtdiobaoelhdkoaaHpp
import Derived.Test.YtdiobaoelhdkoaaViXE
import Derived.Test.YtdiobaoelhdkoaaViXF
import Derived.Test.YtdiobaoelhdkoaaFns
import Derived.KernelRfl
set_option linter.unusedVariables false
set_option linter.unusedSimpArgs false
set_option linter.unnecessarySimpa false
set_option linter.unusedSectionVars false
set_option linter.unusedSimpArgs false
set_option maxRecDepth 100000
set_option linter.unusedVariables false
set_option maxHeartbeats 1000000
set_option maxHeartbeats 2000000
open Bool renaming and_eq_true → zad, and_self → zaw
open Int renaming le_refl → zaF, toNat_natCast → zat
open List renaming Sublist → zaU, append_assoc → zau, append_nil → zaO, drop_eq_getElem_cons → zaB, drop_of_length_le → zaI, drop_zero → zaN, getElem?_eq_getElem → zac, length_append → zag, length_drop → zal, length_map → zaH, length_take → zae, map_cons → zaC, mem_append → zaf, mem_append_left → zab, mem_append_right → zaa, mem_cons → zak, mem_cons_of_mem → zaj, mem_singleton → zah, nil_append → zaR, nodup_append → zai, nodup_cons → zaJ, pairwise_append → zaL, sublist_append_right → zaM, take_append_drop → zay, take_append_of_le_length → zas, take_of_length_le → zan
open Nat renaming le_refl → zax, min_eq_left → zaQ, mul_le_mul_right → zam, zero_le → zaD
open Option renaming isSome_iff_exists → zaE
namespace Go.Proofs.Ytdiobaoelhdkoaa
open Go.Vi
noncomputable section
@[simp] theorem HpP.k0_0 (p:HpP) {v}:(p.u0 v).q0=v:=rfl
@[simp] theorem HpP.k0_1 (p:HpP) {v}:(p.u0 v).q1=p.q1:=rfl
@[simp] theorem HpP.k0_2 (p:HpP) {v}:(p.u0 v).q2=p.q2:=rfl
@[simp] theorem HpP.k0_3 (p:HpP) {v}:(p.u0 v).q3=p.q3:=rfl
@[simp] theorem HpP.k0_4 (p:HpP) {v}:(p.u0 v).q4=p.q4:=rfl
@[simp] theorem HpP.k0_5 (p:HpP) {v}:(p.u0 v).q5=p.q5:=rfl
@[simp] theorem HpP.k0_6 (p:HpP) {v}:(p.u0 v).q6=p.q6:=rfl
@[simp] theorem HpP.k0_7 (p:HpP) {v}:(p.u0 v).q7=p.q7:=rfl
@[simp] theorem HpP.k0_8 (p:HpP) {v}:(p.u0 v).q8=p.q8:=rfl
@[simp] theorem HpP.k1_0 (p:HpP) {v}:(p.u1 v).q0=p.q0:=rfl
@[simp] theorem HpP.k1_1 (p:HpP) {v}:(p.u1 v).q1=v:=rfl
@[simp] theorem HpP.k1_2 (p:HpP) {v}:(p.u1 v).q2=p.q2:=rfl
@[simp] theorem HpP.k1_3 (p:HpP) {v}:(p.u1 v).q3=p.q3:=rfl
@[simp] theorem HpP.k1_4 (p:HpP) {v}:(p.u1 v).q4=p.q4:=rfl
@[simp] theorem HpP.k1_5 (p:HpP) {v}:(p.u1 v).q5=p.q5:=rfl
@[simp] theorem HpP.k1_6 (p:HpP) {v}:(p.u1 v).q6=p.q6:=rfl
@[simp] theorem HpP.k1_7 (p:HpP) {v}:(p.u1 v).q7=p.q7:=rfl
@[simp] theorem HpP.k1_8 (p:HpP) {v}:(p.u1 v).q8=p.q8:=rfl
@[simp] theorem HpP.k2_0 (p:HpP) {v}:(p.u2 v).q0=p.q0:=rfl
@[simp] theorem HpP.k2_1 (p:HpP) {v}:(p.u2 v).q1=p.q1:=rfl
@[simp] theorem HpP.k2_2 (p:HpP) {v}:(p.u2 v).q2=v:=rfl
@[simp] theorem HpP.k2_3 (p:HpP) {v}:(p.u2 v).q3=p.q3:=rfl
@[simp] theorem HpP.k2_4 (p:HpP) {v}:(p.u2 v).q4=p.q4:=rfl
@[simp] theorem HpP.k2_5 (p:HpP) {v}:(p.u2 v).q5=p.q5:=rfl
@[simp] theorem HpP.k2_6 (p:HpP) {v}:(p.u2 v).q6=p.q6:=rfl
@[simp] theorem HpP.k2_7 (p:HpP) {v}:(p.u2 v).q7=p.q7:=rfl
@[simp] theorem HpP.k2_8 (p:HpP) {v}:(p.u2 v).q8=p.q8:=rfl
@[simp] theorem HpP.k3_0 (p:HpP) {v}:(p.u3 v).q0=p.q0:=rfl
@[simp] theorem HpP.k3_1 (p:HpP) {v}:(p.u3 v).q1=p.q1:=rfl
@[simp] theorem HpP.k3_2 (p:HpP) {v}:(p.u3 v).q2=p.q2:=rfl
@[simp] theorem HpP.k3_3 (p:HpP) {v}:(p.u3 v).q3=v:=rfl
@[simp] theorem HpP.k3_4 (p:HpP) {v}:(p.u3 v).q4=p.q4:=rfl
@[simp] theorem HpP.k3_5 (p:HpP) {v}:(p.u3 v).q5=p.q5:=rfl
@[simp] theorem HpP.k3_6 (p:HpP) {v}:(p.u3 v).q6=p.q6:=rfl
@[simp] theorem HpP.k3_7 (p:HpP) {v}:(p.u3 v).q7=p.q7:=rfl
@[simp] theorem HpP.k3_8 (p:HpP) {v}:(p.u3 v).q8=p.q8:=rfl
@[simp] theorem HpP.k4_0 (p:HpP) {v}:(p.u4 v).q0=p.q0:=rfl
@[simp] theorem HpP.k4_1 (p:HpP) {v}:(p.u4 v).q1=p.q1:=rfl
@[simp] theorem HpP.k4_2 (p:HpP) {v}:(p.u4 v).q2=p.q2:=rfl
@[simp] theorem HpP.k4_3 (p:HpP) {v}:(p.u4 v).q3=p.q3:=rfl
@[simp] theorem HpP.k4_4 (p:HpP) {v}:(p.u4 v).q4=v:=rfl
@[simp] theorem HpP.k4_5 (p:HpP) {v}:(p.u4 v).q5=p.q5:=rfl
@[simp] theorem HpP.k4_6 (p:HpP) {v}:(p.u4 v).q6=p.q6:=rfl
@[simp] theorem HpP.k4_7 (p:HpP) {v}:(p.u4 v).q7=p.q7:=rfl
@[simp] theorem HpP.k4_8 (p:HpP) {v}:(p.u4 v).q8=p.q8:=rfl
@[simp] theorem HpP.k5_0 (p:HpP) {v}:(p.u5 v).q0=p.q0:=rfl
@[simp] theorem HpP.k5_1 (p:HpP) {v}:(p.u5 v).q1=p.q1:=rfl
@[simp] theorem HpP.k5_2 (p:HpP) {v}:(p.u5 v).q2=p.q2:=rfl
@[simp] theorem HpP.k5_3 (p:HpP) {v}:(p.u5 v).q3=p.q3:=rfl
@[simp] theorem HpP.k5_4 (p:HpP) {v}:(p.u5 v).q4=p.q4:=rfl
@[simp] theorem HpP.k5_5 (p:HpP) {v}:(p.u5 v).q5=v:=rfl
@[simp] theorem HpP.k5_6 (p:HpP) {v}:(p.u5 v).q6=p.q6:=rfl
@[simp] theorem HpP.k5_7 (p:HpP) {v}:(p.u5 v).q7=p.q7:=rfl
@[simp] theorem HpP.k5_8 (p:HpP) {v}:(p.u5 v).q8=p.q8:=rfl
@[simp] theorem HpP.k6_0 (p:HpP) {v}:(p.u6 v).q0=p.q0:=rfl
@[simp] theorem HpP.k6_1 (p:HpP) {v}:(p.u6 v).q1=p.q1:=rfl
@[simp] theorem HpP.k6_2 (p:HpP) {v}:(p.u6 v).q2=p.q2:=rfl
@[simp] theorem HpP.k6_3 (p:HpP) {v}:(p.u6 v).q3=p.q3:=rfl
@[simp] theorem HpP.k6_4 (p:HpP) {v}:(p.u6 v).q4=p.q4:=rfl
@[simp] theorem HpP.k6_5 (p:HpP) {v}:(p.u6 v).q5=p.q5:=rfl
@[simp] theorem HpP.k6_6 (p:HpP) {v}:(p.u6 v).q6=v:=rfl
@[simp] theorem HpP.k6_7 (p:HpP) {v}:(p.u6 v).q7=p.q7:=rfl
@[simp] theorem HpP.k6_8 (p:HpP) {v}:(p.u6 v).q8=p.q8:=rfl
@[simp] theorem HpP.k7_0 (p:HpP) {v}:(p.u7 v).q0=p.q0:=rfl
@[simp] theorem HpP.k7_1 (p:HpP) {v}:(p.u7 v).q1=p.q1:=rfl
@[simp] theorem HpP.k7_2 (p:HpP) {v}:(p.u7 v).q2=p.q2:=rfl
@[simp] theorem HpP.k7_3 (p:HpP) {v}:(p.u7 v).q3=p.q3:=rfl
@[simp] theorem HpP.k7_4 (p:HpP) {v}:(p.u7 v).q4=p.q4:=rfl
@[simp] theorem HpP.k7_5 (p:HpP) {v}:(p.u7 v).q5=p.q5:=rfl
@[simp] theorem HpP.k7_6 (p:HpP) {v}:(p.u7 v).q6=p.q6:=rfl
@[simp] theorem HpP.k7_7 (p:HpP) {v}:(p.u7 v).q7=v:=rfl
@[simp] theorem HpP.k7_8 (p:HpP) {v}:(p.u7 v).q8=p.q8:=rfl
@[simp] theorem HpP.k8_0 (p:HpP) {v}:(p.u8 v).q0=p.q0:=rfl
@[simp] theorem HpP.k8_1 (p:HpP) {v}:(p.u8 v).q1=p.q1:=rfl
@[simp] theorem HpP.k8_2 (p:HpP) {v}:(p.u8 v).q2=p.q2:=rfl
@[simp] theorem HpP.k8_3 (p:HpP) {v}:(p.u8 v).q3=p.q3:=rfl
@[simp] theorem HpP.k8_4 (p:HpP) {v}:(p.u8 v).q4=p.q4:=rfl
@[simp] theorem HpP.k8_5 (p:HpP) {v}:(p.u8 v).q5=p.q5:=rfl
@[simp] theorem HpP.k8_6 (p:HpP) {v}:(p.u8 v).q6=p.q6:=rfl
@[simp] theorem HpP.k8_7 (p:HpP) {v}:(p.u8 v).q7=p.q7:=rfl
@[simp] theorem HpP.k8_8 (p:HpP) {v}:(p.u8 v).q8=v:=rfl
end
end Go.Proofs.Ytdiobaoelhdkoaa
namespace Go.Proofs.Ytdiobaoelhdkoaa
open Go.Vi
theorem bfP_t {a b:HpP}:bfP true a b=a:=rfl
theorem qj1 {α:Type}{q:List (Option (List α))}{r':List α}{j:Int}(h:j<qn q):qN (qdc q r') j=qN q j:=by
 rw[qv]at h;rw[qbW,qa9,qa9];split
 ·rw[List.getElem?_append_left (by omega)]
 ·rfl
theorem qke {α:Type}{q:List (Option (List α))}{i j:Int}(h0:0≤i) (hn:j≠i):qN (q.set i.toNat none) j=qN q j:=by
 rw[qa9,qa9];split
 ·rw[List.getElem?_set_ne (by omega)]
 ·rfl
theorem Sl.ins {α:Type}{q:List (Option (List α))}{h v:Int×(Int×Int)}{xs ys:List α}{i bytes:Nat}(s:Sl q h xs) (t:Sl q v ys) (hi:i≤xs.length) (hy:0<ys.length) (hn:h.1≠v.1) (hb:(xs.length+ys.length)*bytes≤140737488355328):
  ∃q',qkm bytes q h (i:Int) v=some (q',(qn q,(0,((xs.length+ys.length:Nat):Int))))∧Sl q' (qn q,(0,((xs.length+ys.length:Nat):Int))) (xs.take i++ys++xs.drop i)∧qn q'=qn q+1∧∀j,j≠h.1→j<qn q→qN q' j=qN q j:=by
 have hl:(xs.take i++ys++xs.drop i).length=xs.length+ys.length:=by simp;omega
 unfold qkm;simp only[s.read,t.read];rw[if_pos ⟨⟨by omega,by omega,hy⟩,⟨s.lo,t.lo,hn⟩,hb⟩,zat];have key:∀q0:List (Option (List α)),qn q0=qn q→Sl (q0++[some (xs.take i++ys++xs.drop i)]) (qn q,(0,((xs.length+ys.length:Nat):Int))) (xs.take i++ys++xs.drop i)∧qn (q0++[some (xs.take i++ys++xs.drop i)])=qn q+1:=fun q0 h0=>by
  have h1:=Sl.new (q:=q0) (xs:=xs.take i++ys++xs.drop i);rw[h0,qv (xs.take i++ys++xs.drop i),hl,qbW]at h1;exact⟨h1,by rw[←qbW,qfx,h0]⟩
 by_cases h0:h.1= -1
 ·rw[if_pos h0];refine⟨_,by rw[qv],(key q rfl).1,(key q rfl).2,fun j _ hj=>?_⟩;rw[←qbW];exact qj1 hj
 ·rw[if_neg h0];have hq:qn (q.set h.1.toNat none)=qn q:=by rw[qv,qv,List.length_set]
  refine⟨_,by rw[qv],(key _ hq).1,(key _ hq).2,fun j hne hj=>?_⟩;rw[←qbW,qj1 (by rw[hq];exact hj)];refine qke ?_ hne;rcases s with⟨h,_⟩|⟨r,hr,_⟩
  ·rw[h]at h0;exact absurd rfl h0
  ·exact(qP hr).1
theorem Sl.swp {ks:List (Nat×Nat×Ty)}{α:Type}{q:hden ks→List (Option (List α))}{u:hden ks→List (Option (List α))→hden ks}{s:Int×(Int×Int)}{p:hden ks}{xs:List α}(h:Sl (q p) s xs) {i j:Nat}(hi:i<xs.length) (hj:j<xs.length):
  ∃q',qu2 q u s p ((i:Int),((j:Int),()))=some (u p q',())∧Sl q' s ((xs.set i xs[j]).set j xs[i])∧qn q'=qn (q p)∧∀k,k≠s.1→qN q' k=qN (q p) k:=by
 have h0:=(h.alive hi).2.2;obtain⟨r,hr,ht,hl⟩:=h.row hi;have hhi:=h.hi;have gi:r[i]? =some xs[i]:=qnl ht hi;have gj:r[j]? =some xs[j]:=qnl ht hj;refine⟨qdD (q p) s.1 ((r.set i xs[j]).set j xs[i]),?_,.inr ⟨_,qar hr,h.lo,by rw[hhi];simp,?_⟩,qpg,fun k hk=>qcu h0 hk⟩
 ·unfold qu2;simp only[hr];rw[if_pos ⟨⟨by omega,by omega⟩,by omega,by omega⟩,qec];simp only[qvQ,zat,gi,gj]
 ·simp only[List.length_set,List.take_set,ht]
end Go.Proofs.Ytdiobaoelhdkoaa
namespace Go.Proofs.Ytdiobaoelhdkoaa
open Go.Vi
def St (p0:HpP) (s:Int×(Int×Int)) (p:HpP) (ys:List qA):Prop:=∃q',p=p0.u2 q'∧Sl q' s ys∧qn q'=qn p0.q2∧∀k,k≠s.1→qN q' k=qN p0.q2 k
noncomputable abbrev swF (s:Int×(Int×Int)):HpP→(Int×(Int×Unit))→Option (HpP×Unit):=qu2 (ks:=ksP) HpP.q2 HpP.u2 s
variable {p0 p:HpP}{s:Int×(Int×Int)}{ys:List qA}
theorem St.swp (h:St p0 s p ys) {i j:Int}(hc:(inB i (qn ys)&&inB j (qn ys))=true):∃p',swF s p (i,(j,()))=some (p',())∧St p0 s p' (qua ys i j):=by
 obtain⟨q',rfl,h1,h2,h3⟩:=h;rw[zad,qf4,qf4,qv]at hc;simp at hc;obtain⟨a,rfl⟩:=Int.eq_ofNat_of_zero_le hc.1.1;obtain⟨b,rfl⟩:=Int.eq_ofNat_of_zero_le hc.2.1;have ha:a<ys.length:=by omega
 have hb:b<ys.length:=by omega
 obtain⟨q2,g1,g2,g3,g4⟩:=Sl.swp (ks:=ksP) (q:=HpP.q2) (u:=HpP.u2) (p:=p0.u2 q') (s:=s) h1 ha hb;refine⟨_,g1,q2,rfl,?_,g3.trans h2,fun k hk=>(g4 k hk).trans (h3 k hk)⟩;rw[qqf];simp only[zat,zac ha,zac hb];exact g2
abbrev SK (p0:HpP) (s:Int×(Int×Int)) (r:Unit×(List qA×Unit)) (r':HpP×Unit):Prop:=St p0 s r'.1 r.2.1
theorem qpE {N:Nat}{φ φ'} (h:St p0 s p ys) (a b m:Int):Fol (SK p0 s) (qio N ((ys,φ'),(a,(b,(m,()))))) (qbm N p ((φ,swF s),(a,(b,(m,()))))):=by
 refine Fol.it (fun (t:List qA×(Int×Unit)) (t':HpP×(Int×Unit))=>St p0 s t'.1 t.1∧t'.2=t.2) (fun ih ih' hih=>?_) N _ _ ⟨h,rfl⟩;rintro⟨zs,k,⟨⟩⟩ ⟨p',k',⟨⟩⟩ ⟨h1,h2⟩;cases h2;refine Fol.B rfl (fun _=>Fol.G fun hc=>?_) fun _=>Fol.mk h1;obtain⟨p2,g1,g2⟩:=h1.swp hc;refine Fol.G2 (by rw[qaI];show(swF s p' _).isSome=true;rw[g1];rfl) (Fol.R2 (hih _ _ ⟨?_,rfl⟩));show St p0 s (qy (swF s p' _) _).1 _;rw[g1,qbh];exact g2
abbrev Less:Type:=HpP→(Int×(Int×Unit))→Option (HpP×(Bool×Unit))
def LA (p0:HpP) (s:Int×(Int×Int)) (φ:Less) (φ':List qA→Int→Int→Option Bool):Prop:=∀p ys i j b,St p0 s p ys→φ' ys i j=some b→φ p (i,(j,()))=some (p,(b,()))
theorem Fol.T1 {R R':Type}{K:R→R'→Prop}{c:Bool}{a b:Option R}{o':Option R'}(hc:c=true) (h:Fol K a o'):Fol K (bif c then a else b) o':=by rw[hc];exact h
theorem Fol.F1 {R R':Type}{K:R→R'→Prop}{c:Bool}{a b:Option R}{o':Option R'}(hc:c=false) (h:Fol K b o'):Fol K (bif c then a else b) o':=by rw[hc];exact h
theorem qrR {N:Nat}{φ:Less}{φ'} (hL:LA p0 s φ φ') (h:St p0 s p ys) (a b:Int):Fol (SK p0 s) (qkJ N ((ys,φ'),(a,(b,())))) (qap N p ((φ,swF s),(a,(b,())))):=by
 refine Fol.it (fun (t:List qA×(Int×Unit)) (t':HpP×(Int×Unit))=>St p0 s t'.1 t.1∧t'.2=t.2) (fun ih ih' hih=>?_) N _ _ ⟨h,rfl⟩;rintro⟨zs,k,⟨⟩⟩ ⟨p',k',⟨⟩⟩ ⟨h1,h2⟩;cases h2;refine Fol.B rfl (fun _=>?_) fun _=>Fol.mk h1;refine Fol.it (fun (t:List qA×(Int×Unit)) (t':HpP×(Int×Unit))=>St p0 s t'.1 t.1∧t'.2=t.2) (fun ih2 ih2' hih2=>?_) N _ _ ⟨h1,rfl⟩;rintro⟨ws,j,⟨⟩⟩ ⟨p2,j',⟨⟩⟩ ⟨h3,h4⟩;cases h4;dsimp only;cases hlt:ltI a j with
 |false=>
  refine Fol.G fun _=>?_;exact Fol.G2 rfl (Fol.F1 rfl (Fol.F2 rfl (Fol.R2 (hih _ _ ⟨h3,rfl⟩))))
 |true=>
  refine Fol.G fun hs=>?_;have hs:qp (φ' ws j (qaF .i64 j 1))=true:=hs;rw[qaI]at hs;obtain⟨c,hc⟩:=zaE.1 hs;have g:=hL _ _ _ _ _ h3 hc;rw[g,hc];refine Fol.G2 (by rw[qaI];rfl) ?_;simp only[qbh,Option.getD_some,bfP_t];cases c with
  |false=>exact Fol.F1 rfl (Fol.F2 rfl (Fol.R2 (hih _ _ ⟨h3,rfl⟩)))
  |true=>
   refine Fol.T1 rfl (Fol.G2 rfl (Fol.G fun hb=>?_));obtain⟨p3,g1,g2⟩:=h3.swp hb;refine Fol.R2 (Fol.G2 (by rw[qaI];show(swF s p2 _).isSome=true;rw[g1];rfl) (Fol.R2 (hih2 _ _ ⟨?_,rfl⟩)));show St p0 s ((swF s p2 _).getD _).1 _;rw[g1];exact g2
theorem SK.of {f:Option (Unit×(List qA×Unit))}{g:Option (HpP×Unit)}(h:Fol (SK p0 s) f g) (hs:qp f=true):qp g=true∧∀d d',St p0 s (qy g d).1 (qy f d').2.1:=by
 rw[qaI]at hs;obtain⟨r,hr⟩:=zaE.1 hs;obtain⟨r',h1,h2⟩:=h r hr;subst hr h1;exact⟨by rw[qaI];rfl,fun d d'=>by rw[qbh,qbh];exact h2⟩
theorem qvA {N:Nat}{φ:Less}{φ'} (h:St p0 s p ys) (a m b:Int):Fol (SK p0 s) (qfB N ((ys,φ'),(a,(m,(b,()))))) (qdu N p ((φ,swF s),(a,(m,(b,()))))):=by
 refine Fol.J1 (Fol.J2 (Fol.it (fun (t:List qA×(Int×(Int×Unit))) (t':HpP×(Int×(Int×Unit)))=>St p0 s t'.1 t.1∧t'.2=t.2) (fun ih ih' hih=>?_) N _ _ ⟨h,rfl⟩));rintro⟨zs,i,j,⟨⟩⟩ ⟨p',k',⟨⟩⟩ ⟨h1,h2⟩;cases h2;refine Fol.B rfl (fun _=>?_) fun _=>Fol.G fun hs=>?_
 ·refine Fol.G fun hs=>?_;dsimp only at hs⊢
  cases hlt:ltI j i with
  |false=>
   rw[hlt]at hs;obtain⟨k1,k2⟩:=SK.of (qpE (φ:=φ) (φ':=φ') h1 _ _ _) hs;exact Fol.G2 k1 (hih _ _ ⟨k2 _ _,rfl⟩)
  |true=>
   rw[hlt]at hs;obtain⟨k1,k2⟩:=SK.of (qpE (φ:=φ) (φ':=φ') h1 _ _ _) hs;exact Fol.G2 k1 (hih _ _ ⟨k2 _ _,rfl⟩)
 ·obtain⟨k1,k2⟩:=SK.of (qpE (φ:=φ) (φ':=φ') h1 _ _ _) hs;exact Fol.G2 k1 (Fol.mk (k2 _ _))
theorem LA.of {φ:Less}{φ'} (hL:LA p0 s φ φ') (h:St p0 s p ys) {i j:Int}(hs:qp (φ' ys i j)=true):φ p (i,(j,()))=some (p,(qy (φ' ys i j) false,())):=by
 rw[qaI]at hs;obtain⟨b,hb⟩:=zaE.1 hs;rw[hb,qbh];exact hL _ _ _ _ _ h hb
theorem St.sw (h:St p0 s p ys) {i j:Int}(hc:(inB i (qn ys)&&inB j (qn ys))=true):qp (swF s p (i,(j,())))=true∧∀d,St p0 s (qy (swF s p (i,(j,()))) d).1 (qua ys i j):=by
 obtain⟨p',g1,g2⟩:=h.swp hc;rw[g1];exact⟨by rw[qaI];rfl,fun d=>by rw[qbh];exact g2⟩
abbrev I3 (p0:HpP) (s:Int×(Int×Int)) (t:List qA×(Int×(Int×Unit))) (t':HpP×(Int×(Int×Unit))):Prop:=St p0 s t'.1 t.1∧t'.2=t.2
abbrev I2 (p0:HpP) (s:Int×(Int×Int)) (t:List qA×(Int×Unit)) (t':HpP×(Int×Unit)):Prop:=St p0 s t'.1 t.1∧t'.2=t.2
theorem SK.may {y:Bool}{f:Option (Unit×(List qA×Unit))}{g:Option (HpP×Unit)}(h:Fol (SK p0 s) f g) (h0:St p0 s p ys) (hs:(bif y then qp f else true)=true):(bif y then qp g else true)=true∧∀d d',St p0 s (bfP y (qy g d).1 p) (bif y then(qy f d').2.1 else ys):=by
 cases y
 ·exact⟨rfl,fun _ _=>h0⟩
 ·exact SK.of h hs
theorem qpr {N:Nat}{φ:Less}{φ'} (hL:LA p0 s φ φ'):∀(M:Nat) {p:HpP}{ys:List qA},St p0 s p ys→∀(a m b:Int),Fol (SK p0 s) (qgz N M ((ys,φ'),(a,(m,(b,()))))) (qbX N M p ((φ,swF s),(a,(m,(b,())))))
 |0,_,_,_,_,_,_=>Fol.none
 |M+1,p,ys,h,a,m,b=>by
  have ih:=fun {p:HpP}{ys:List qA}(h:St p0 s p ys) (a m b:Int)=>qpr (N:=N) hL M h a m b;show Fol _ (qnu N (qgz N M) _) _;refine Fol.B rfl (fun _=>?_) fun _=>Fol.B rfl (fun _=>?_) fun _=>?_
  ·refine Fol.it (I3 p0 s) (fun ih0 ih0' hih=>?_) N _ _ ⟨h,rfl⟩;rintro⟨zs,i,j,⟨⟩⟩ ⟨p',k',⟨⟩⟩ ⟨h1,h2⟩;cases h2;refine Fol.B rfl (fun _=>Fol.B rfl (fun _=>Fol.J1 (Fol.J2 (Fol.G fun hs=>?_))) fun _=>Fol.none) fun _=>?_
   ·have g:=hL.of h1 hs;dsimp only at g⊢
    rw[g];exact Fol.G2 (by rw[qaI];rfl) (Fol.J1 (Fol.J2 (hih _ _ ⟨by rw[qbh];exact h1,by rw[qbh (some _)];rfl⟩)))
   ·refine Fol.it (I2 p0 s) (fun ih2 ih2' hih2=>?_) N _ _ ⟨h1,rfl⟩;rintro⟨ws,k,⟨⟩⟩ ⟨p2,k',⟨⟩⟩ ⟨h3,h4⟩;cases h4;refine Fol.B rfl (fun _=>Fol.G fun hc=>?_) fun _=>Fol.mk h3;obtain⟨k1,k2⟩:=h3.sw hc;exact Fol.G2 k1 (Fol.R2 (hih2 _ _ ⟨k2 _,rfl⟩))
  ·refine Fol.it (I3 p0 s) (fun ih0 ih0' hih=>?_) N _ _ ⟨h,rfl⟩;rintro⟨zs,i,j,⟨⟩⟩ ⟨p',k',⟨⟩⟩ ⟨h1,h2⟩;cases h2;refine Fol.B rfl (fun _=>Fol.B rfl (fun _=>Fol.J1 (Fol.J2 (Fol.G fun hs=>?_))) fun _=>Fol.none) fun _=>?_
   ·have g:=hL.of h1 hs;dsimp only at g⊢
    rw[g];exact Fol.G2 (by rw[qaI];rfl) (hih _ _ ⟨by rw[qbh];exact h1,by rw[qbh (some _)];rfl⟩)
   ·refine Fol.it (I2 p0 s) (fun ih2 ih2' hih2=>?_) N _ _ ⟨h1,rfl⟩;rintro⟨ws,k,⟨⟩⟩ ⟨p2,k',⟨⟩⟩ ⟨h3,h4⟩;cases h4;refine Fol.B rfl (fun _=>Fol.G fun hc=>?_) fun _=>Fol.mk h3;obtain⟨k1,k2⟩:=h3.sw hc;exact Fol.G2 k1 (Fol.R2 (hih2 _ _ ⟨k2 _,rfl⟩))
  ·refine Fol.B rfl (fun _=>Fol.J1 (Fol.J2 (Fol.J1 (Fol.J2 (Fol.J1 (Fol.J2 (Fol.J1 (Fol.J2 ?_)))))))) fun _=>Fol.none;refine Fol.it (I3 p0 s) (fun ih0 ih0' hih=>?_) N _ _ ⟨h,rfl⟩;rintro⟨zs,i,j,⟨⟩⟩ ⟨p',k',⟨⟩⟩ ⟨h1,h2⟩;cases h2;refine Fol.B rfl (fun _=>Fol.B rfl (fun _=>Fol.J1 (Fol.J2 (Fol.G fun hs=>?_))) fun _=>Fol.none) fun _=>?_
   ·have g:=hL.of h1 hs;dsimp only at g⊢
    rw[g];exact Fol.G2 (by rw[qaI];rfl) (hih _ _ ⟨by rw[qbh];exact h1,by rw[qbh (some _)];rfl⟩)
   ·refine Fol.J1 (Fol.J2 (Fol.J1 (Fol.J2 (Fol.G fun hs=>?_))));obtain⟨k1,k2⟩:=SK.may (qvA (φ:=φ) (φ':=φ') h1 _ _ _) h1 hs;refine Fol.G2 k1 (Fol.R2 (Fol.J1 (Fol.J2 (Fol.G fun hs2=>?_))));obtain⟨k3,k4⟩:=SK.may (ih (k2 (p',()) ((),([],()))) _ _ _) (k2 (p',()) ((),([],()))) hs2;refine Fol.G2 k3 (Fol.R2 (Fol.J1 (Fol.J2 (Fol.G fun hs3=>?_))));obtain⟨k5,k6⟩:=SK.may (ih (k4 (_,()) ((),([],()))) _ _ _) (k4 (_,()) ((),([],()))) hs3;exact Fol.G2 k5 (Fol.mk (k6 _ _))
theorem qvm {N:Nat}{φ:Less}{φ'} (hL:LA p0 s φ φ') (h:St p0 s p ys) (n:Int):Fol (SK p0 s) (qnY N ((ys,φ'),(n,()))) (qaU N p ((φ,swF s),(n,()))):=by
 refine Fol.it (I3 p0 s) (fun ih0 ih0' hih=>?_) N _ _ ⟨h,rfl⟩;rintro⟨zs,i,j,⟨⟩⟩ ⟨p',k',⟨⟩⟩ ⟨h1,h2⟩;cases h2;refine Fol.B rfl (fun _=>Fol.G fun hs=>?_) fun _=>Fol.G fun hs=>?_
 ·obtain⟨k1,k2⟩:=SK.of (qrR (φ:=φ) (φ':=φ') hL h1 _ _) hs;exact Fol.G2 k1 (Fol.J1 (Fol.J2 (Fol.R2 (hih _ _ ⟨k2 _ _,rfl⟩))))
 ·obtain⟨k1,k2⟩:=SK.of (qrR (φ:=φ) (φ':=φ') hL h1 _ _) hs;refine Fol.G2 k1 (Fol.it (I2 p0 s) (fun ih2 ih2' hih2=>?_) N _ _ ⟨k2 _ _,rfl⟩);rintro⟨ws,a,⟨⟩⟩ ⟨p2,k',⟨⟩⟩ ⟨h3,h4⟩;cases h4;refine Fol.B rfl (fun _=>?_) fun _=>Fol.mk h3;refine Fol.it (I3 p0 s) (fun ih4 ih4' hih4=>?_) N _ _ ⟨h3,rfl⟩;rintro⟨vs,c,d,⟨⟩⟩ ⟨p3,k',⟨⟩⟩ ⟨h5,h6⟩;cases h6;refine Fol.B rfl (fun _=>Fol.G fun hs=>?_) fun _=>Fol.J1 (Fol.J2 (Fol.G fun hs=>?_))
  ·obtain⟨k3,k4⟩:=SK.of (qpr (φ:=φ) (φ':=φ') hL N h5 _ _ _) hs;exact Fol.G2 k3 (Fol.J1 (Fol.J2 (Fol.R2 (hih4 _ _ ⟨k4 _ _,rfl⟩))))
  ·obtain⟨k3,k4⟩:=SK.may (qpr (φ:=φ) (φ':=φ') hL N h5 _ _ _) h5 hs;exact Fol.G2 k3 (Fol.R2 (hih2 _ _ ⟨k4 _ _,rfl⟩))
end Go.Proofs.Ytdiobaoelhdkoaa
namespace Go.Proofs.Ytdiobaoelhdkoaa
open Go.Vi
noncomputable section
theorem qhF (N:Nat) (x y:Int):qas N (x,(y,()))=some ((ic x y,()),()):=by
 simp only[qas,qak,qbz,qum,decide_eq_true_eq,ic];split
 ·rfl
 ·split<;>rfl
theorem qq1 (N:Nat) (a b:List UInt8):qcf N (a,(b,()))=some ((Lib.compareBytes a b,()),()):=by
 simp only[qcf,qaG,qak,qf,qg,cond_true]
theorem qqP (N:Nat) (a b:qi):qcK N (a,(b,()))=some ((vc a b,()),()):=by
 obtain⟨_,_,_,⟨⟩⟩:=b;simp only[qcK,qak,qhF,qq1,qf,qg,cond_true,qaM,qum,Bool.not_eq_true',decide_eq_false_iff_not,vc];split
 ·rfl
 ·split<;>rfl
theorem quV (N:Nat) (a b:qi):qaK N (a,(b,()))=some ((decide (vc a b<0),()),()):=by
 simp only[qaK,qak,qaM,qbz,qtW];have h1:=qa0 a.1 b.1;have h2:=qa0 a.2.1 b.2.1;by_cases e1:a.1=b.1
 ·have f1:ic a.1 b.1=0:=by omega
  by_cases e2:a.2.1=b.2.1
  ·have f2:ic a.2.1 b.2.1=0:=by omega
   have:vc a b=Lib.compareBytes a.2.2.1 b.2.2.1:=by simp[vc,f1,f2]
   simp[e1,e2,this]
  ·have f2:ic a.2.1 b.2.1≠0:=by omega
   have h3:vc a b=ic a.2.1 b.2.1:=by simp[vc,f1,f2]
   have h4:a.2.1<b.2.1↔vc a b<0:=by omega
   simp[e1,e2,h4]
 ·have f1:ic a.1 b.1≠0:=by omega
  have h3:vc a b=ic a.1 b.1:=by simp[vc,f1]
  have h4:a.1<b.1↔vc a b<0:=by omega
  simp[e1,h4]
theorem qfk (N:Nat) (xs ys:qaQ) (hN:xs.length<N) (hB:N≤1099511627776):qY N (xs,(ys,()))=some ((qai xs ys,()),()):=by
 simp only[qY,qak,qhF,qqP,qf,qg,cond_true,Bool.and_true];refine qeI (S:=Int×Unit) (R:=(Int×Unit)×Unit) (fun p=>xs.length-p.1.toNat) (fun p=>∃i:Nat,p.1=(i:Int)∧i≤xs.length∧i≤ys.length∧qai (xs.drop i) (ys.drop i)=qai xs ys) (fun _=>((qai xs ys,()),())) ?_ N _ ⟨0,rfl,zaD _,zaD _,rfl⟩ (by simp;omega);rintro ih ⟨_,_⟩ ⟨i,rfl,hx,hy,he⟩ hih;simp only[zat]at hih⊢
 by_cases h:i<xs.length∧i<ys.length
 ·obtain⟨h1,h2⟩:=h;rw[qa3 (by rw[qbz,qe8,qv,qv];simp;omega),qer h1,qer h2,qb0 _ h1,qb0 _ h2];simp only[zaw,cond_true];rw[zaB h1,zaB h2,qai]at he;by_cases hv:vc xs[i] ys[i]=0
  ·rw[if_neg (fun h=>h hv)]at he;rw[qa7 (by rw[qaM,hv];rfl),qa2 (by omega)];exact hih _ ⟨i+1,rfl,h1,h2,he⟩ (by simp only[zat];omega)
  ·rw[if_pos hv]at he;rw[qa3 (by rw[qaM];simp[hv]),he]
 ·rw[qa7 (by rw[qbz,qe8,qv,qv];simp;omega)];rw[qmm xs ys i h hx hy]at he;rw[qv,qv,he]
theorem qkR (N:Nat) (xs ys:qaQ) (hN:xs.length<N) (hB:N≤1099511627776):qC N (xs,(ys,()))=some ((qai xs ys,()),()):=by
 simp only[qC,qak,quV,qf,qg,cond_true,Bool.and_true];refine qeI (S:=Int×Unit) (R:=(Int×Unit)×Unit) (fun p=>xs.length-p.1.toNat) (fun p=>∃i:Nat,p.1=(i:Int)∧i≤xs.length∧i≤ys.length∧qai (xs.drop i) (ys.drop i)=qai xs ys) (fun _=>((qai xs ys,()),())) ?_ N _ ⟨0,rfl,zaD _,zaD _,rfl⟩ (by simp;omega);rintro ih ⟨_,_⟩ ⟨i,rfl,hx,hy,he⟩ hih;simp only[zat]at hih⊢
 by_cases h:i<xs.length∧i<ys.length
 ·obtain⟨h1,h2⟩:=h;rw[qkT h1,qkT h2,qer h1,qer h2,qb0 _ h1,qb0 _ h2];simp only[zaw,cond_true];rw[zaB h1,zaB h2,qai]at he;have hs:=qrW xs[i] ys[i];rcases quc xs[i] ys[i]with hv|hv|hv
  ·rw[if_pos (by omega)]at he;rw[qa3 (by rw[hv];rfl),←he,hv]
  ·rw[if_neg (fun h=>h hv)]at he;rw[qa7 (by rw[hv];rfl),qa7 (by rw[hs,hv];rfl),qa2 (by omega)];exact hih _ ⟨i+1,rfl,h1,h2,he⟩ (by simp only[zat];omega)
  ·rw[if_pos (by omega)]at he;rw[qa7 (by rw[hv];rfl),qa3 (by rw[hs,hv];rfl),←he,hv]
 ·rw[qa7 (by
   rw[qbz,qbz,qv,qv];simp only[Bool.and_eq_false_iff,decide_eq_false_iff_not];omega)]
  rw[qmm xs ys i h hx hy]at he;rw[qv,qv,←he];have:=qa0 (xs.length:Int) (ys.length:Int);rcases this with⟨h1,h2⟩|⟨h1,h2⟩|⟨h1,h2⟩
  ·rw[qa3 (by rw[qbz];simp;omega),h2]
  ·rw[qa7 (by rw[qbz];simp;omega),qa7 (by rw[qbz];simp;omega),h2]
  ·rw[qa7 (by rw[qbz];simp;omega),qa3 (by rw[qbz];simp;omega),h2]
def quJ (v:qi):Int:=
 if v.1=0 then(if v.2.1≠0∨v.2.2.1≠[]then 3 else 0)
 else if v.1=1∨v.1=2 then(if v.2.2.1≠[]then 3 else if(v.1=2∧v.2.1≠0∧v.2.1≠1)∨v.2.1< -1000000000000∨1000000000000<v.2.1 then 1 else 0)
 else if v.1=3 then(if v.2.1≠0 then 3 else if 24<(v.2.2.1.length:Int)then 2 else 0)
 else 7
theorem qo6 (N:Nat) (v:qi):qcA N (v,())=some ((quJ v,()),()):=by
 obtain⟨k,n,s,_⟩:=v;simp only[qcA,qak,quN];simp only[qa4,qaM,qbz,qpo,qv,quJ,qum,condB,Bool.or_eq_true,zad,Bool.not_eq_true',decide_eq_true_eq,decide_eq_false_iff_not,Bool.and_eq_false_iff,Bool.or_eq_false_iff,Bool.not_eq_false'];grind
theorem qjQ (N:Nat) (v:qi):qaY N (v,())=some ((quJ v,()),()):=by
 obtain⟨k,n,s,_⟩:=v;simp only[qaY,qak,quN];simp only[qa4,qaM,qbz,qpo,qv,quJ,qum,condB,Bool.or_eq_true,zad,Bool.not_eq_true',decide_eq_true_eq,decide_eq_false_iff_not,Bool.and_eq_false_iff,Bool.or_eq_false_iff,Bool.not_eq_false'];have hs:s=[]→(s.length:Int)=0:=by rintro rfl;rfl
 have hk:k<0∨k=0∨k=1∨k=2∨k=3∨3<k:=by omega
 rcases hk with hk|hk|hk|hk|hk|hk<;>grind
def qd9:List qi→Int
 |[]=>0
 |v::r=>if quJ v≠0 then quJ v else qd9 r
def qau (r:List qi):Int:=if 12<r.length then 2 else qd9 r
theorem qeM (N:Nat) (r:List qi) (hN:20<N):qZ N (r,())=some ((qau r,()),()):=by
 simp only[qZ,qak,qau];by_cases h:12<r.length
 ·rw[if_pos h,qa3 (by rw[qbz,qv];simp;omega)]
 ·rw[if_neg h,qa7 (by rw[qbz,qv];simp;omega)];refine qeI (S:=Int×Unit) (R:=(Int×Unit)×Unit) (fun p=>r.length-p.1.toNat) (fun p=>∃i:Nat,p.1=(i:Int)∧i≤r.length) (fun p=>((qd9 (r.drop p.1.toNat),()),())) ?_ N _ ⟨0,rfl,zaD _⟩ (by simp;omega);rintro ih ⟨_,_⟩ ⟨i,rfl,h2⟩ hih;simp only[zat]at hih⊢
  by_cases hi:i<r.length
  ·have hg:qJ r (i:Int) (0,(0,([],())))=r[i]:=qg6 (zac hi);rw[qa3 (qkT hi),qa3 (qer hi)];simp only[hg,qo6,qf,qg,cond_true,qaM];rw[qd1 hi];by_cases he:quJ r[i]=0
   ·rw[qa7 (by simp[he]),qa2 (by omega),hih _ ⟨i+1,rfl,by omega⟩ (by simp only[zat];omega)];simp only[zat,qd9,he,ne_eq,not_true_eq_false,if_false]
   ·rw[qa3 (by simp[he])];simp only[qd9,ne_eq,he,not_false_eq_true,if_true]
  ·have hi':i=r.length:=by omega
   rw[qa7 (qk9 hi)];subst hi';simp only[List.drop_length,qd9]
theorem qfu (N:Nat) (r:List qi) (hN:20<N):qaT N (r,())=some ((qau r,()),()):=by
 simp only[qaT,qak,qau];by_cases h:12<r.length
 ·rw[if_pos h,qa3 (by rw[qbz,qv];simp;omega)]
 ·rw[if_neg h,qa7 (by rw[qbz,qv];simp;omega)];refine qeI (S:=Int×Unit) (R:=(Int×Unit)×Unit) (fun p=>r.length-p.1.toNat) (fun p=>∃i:Nat,p.1=(i:Int)∧i≤r.length) (fun p=>((qd9 (r.drop p.1.toNat),()),())) ?_ N _ ⟨0,rfl,zaD _⟩ (by simp;omega);rintro ih ⟨_,_⟩ ⟨i,rfl,h2⟩ hih;simp only[zat]at hih⊢
  by_cases hi:i<r.length
  ·have hg:qJ r (i:Int) (0,(0,([],())))=r[i]:=qg6 (zac hi);rw[qa3 (qkT hi),qa3 (qer hi)];simp only[hg,qjQ,qf,qg,cond_true,qaM];rw[qd1 hi];by_cases he:quJ r[i]=0
   ·rw[qa7 (by simp[he]),qa2 (by omega),hih _ ⟨i+1,rfl,by omega⟩ (by simp only[zat];omega)];simp only[zat,qd9,he,ne_eq,not_true_eq_false,if_false]
   ·rw[qa3 (by simp[he])];simp only[qd9,ne_eq,he,not_false_eq_true,if_true]
  ·have hi':i=r.length:=by omega
   rw[qa7 (qk9 hi)];subst hi';simp only[List.drop_length,qd9]
theorem qn4 (N:Nat) (xs ys:qaQ) (hN:xs.length<N) (hb:xs.length≤1099511627776):qbB N (xs,(ys,()))=some ((decide (xs=ys),()),()):=by
 simp only[qbB];by_cases hl:xs.length=ys.length
 ·rw[qa7 (by rw[qaM,qv,qv,hl];simp)];refine qrK (ne:=fun (a b:qi)=> !((eqI a.1 b.1)&&((eqI a.2.1 b.2.1)&&(eqS a.2.2.1 b.2.2.1)))) (fun a b=>?_) xs ys (0,(0,(([]:List UInt8),()))) hl hb hN;obtain⟨a1,a2,a3,⟨⟩⟩:=a;obtain⟨b1,b2,b3,⟨⟩⟩:=b;simp only[qpo,qa4,Prod.mk.injEq,and_true,Bool.decide_and]
 ·rw[qa3 (by rw[qaM,qv,qv];simp;omega)];have:xs≠ys:=fun h=>hl (by rw[h]);simp[this]
def bsF {α β:Type}(d:α) (N:Nat) (x:List α×(β×(((α×(β×Unit))→Option (Int×Unit))×Unit))):Option ((Int×(Bool×Unit))×Unit):=
 (qT (qn x.1) (fun y0=>(qaE (S:=(Int×(Int×Unit))) (R:=((Int×(Bool×Unit))×Unit)) N (fun ih1=>(fun p2=>(bif (ltI p2.1 p2.2.1)then(bif (leI 0 1)then(qT (qcE .i64 (qlZ .u64 (qcE .u64 (qaj .i64 p2.1 p2.2.1)) 1)) (fun y3=>(bif ((inB y3 (qn x.1))&&(qp (x.2.2.1 ((qJ x.1 y3 d),(x.2.1,())))))then(ih1 ((bif (ltI (qy (x.2.2.1 ((qJ x.1 y3 d),(x.2.1,()))) (0,())).1 0)then(qaj .i64 y3 1)else p2.1),((bif (ltI (qy (x.2.2.1 ((qJ x.1 y3 d),(x.2.1,()))) (0,())).1 0)then p2.2.1 else y3),())))else none)))else none)else(bif (((!(ltI p2.1 y0))||(inB p2.1 (qn x.1)))&&((!(ltI p2.1 y0))||(qp (x.2.2.1 ((qJ x.1 p2.1 d),(x.2.1,()))))))then(some ((p2.1,(((ltI p2.1 y0)&&(eqI (qy (x.2.2.1 ((qJ x.1 p2.1 d),(x.2.1,()))) (0,())).1 0)),())),()))else none)))) (0,(y0,())))))
open Classical in
theorem quF {α β:Type}(d:α) {N:Nat}{xs:List α}{v:β}{φ:(α×(β×Unit))→Option (Int×Unit)}{f:α→Int}(hφ:∀a∈xs,φ (a,(v,()))=some (f a,())) (hm:∀(i j:Nat) (hi:i<xs.length) (hj:j<xs.length),i≤j→0≤f xs[i]→0≤f xs[j]) (hl:xs.length≤1099511627776) (hN:xs.length+1<N):
  ∃k:Nat,k≤xs.length∧(∀(i:Nat) (hi:i<xs.length),i<k→f xs[i]<0)∧(∀(i:Nat) (hi:i<xs.length),k≤i→0≤f xs[i])∧bsF d N (xs,(v,(φ,())))=some (((k:Int),(decide (∃h:k<xs.length,f xs[k]=0),())),()):=by
 have l01:leI 0 1=true:=leT (by omega);simp only[bsF,qak,l01,cond_true];refine qbY (S:=Int×(Int×Unit)) (fun p=>(p.2.1-p.1).toNat) (fun p=>∃a b:Nat,p.1=(a:Int)∧p.2.1=(b:Int)∧a≤b∧b≤xs.length∧(∀(i:Nat) (hi:i<xs.length),i<a→f xs[i]<0)∧(∀(i:Nat) (hi:i<xs.length),b≤i→0≤f xs[i])) (fun r=>∃k:Nat,k≤xs.length∧(∀(i:Nat) (hi:i<xs.length),i<k→f xs[i]<0)∧(∀(i:Nat) (hi:i<xs.length),k≤i→0≤f xs[i])∧r=some (((k:Int),(decide (∃h:k<xs.length,f xs[k]=0),())),())) ?_ N _ ⟨0,xs.length,rfl,by rw[qv],by omega,by omega,fun i hi h=>by omega,fun i hi h=>by omega⟩ (by rw[qv];simp;omega);rintro ih ⟨_,_,⟨⟩⟩ ⟨a,b,rfl,rfl,hab,hbl,h1,h2⟩ hih;simp only at hih⊢
 by_cases hc:a<b
 ·have em:=qif (x:=(a:Int)) (y:=(b:Int)) (by omega) (by omega) (by omega);have e:((a:Int)+(b:Int))/2=(((a+b)/2:Nat):Int):=by omega
  rw[e]at em;generalize hmd:(a+b)/2=m at em;have hml:m<xs.length:=by omega
  rw[qa3 (ltT (by omega)),em,qer hml,qb0 _ hml,hφ _ (List.getElem_mem hml)];simp only[qf,qg,zaw,cond_true];by_cases hf:f xs[m]<0
  ·rw[ltT hf];simp only[cond_true,qa2 (show m<4611686018427387904 by omega)];refine hih _ ⟨m+1,b,rfl,rfl,by omega,hbl,fun i hi him=>?_,h2⟩ (by simp only;omega);rcases Int.lt_or_le (f xs[i]) 0 with q|q
   ·exact q
   ·have:=hm i m hi hml (by omega) q;omega
  ·rw[ltF hf];simp only[cond_false];refine hih _ ⟨a,m,rfl,rfl,by omega,by omega,h1,fun i hi him=>hm m i hml hi him (by omega)⟩ (by simp only;omega)
 ·have:a=b:=by omega
  subst this;rw[qa7 (ltF (by omega))];refine⟨a,hbl,h1,h2,?_⟩;by_cases hal:a<xs.length
  ·rw[qkT hal,qer hal,qb0 _ hal,hφ _ (List.getElem_mem hal)];simp only[qf,qg,Bool.or_true,zaw,cond_true,Bool.true_and,qa4,exists_prop_of_true hal]
  ·rw[qk9 hal];simp only[Bool.not_false,Bool.true_or,zaw,cond_true,Bool.false_and];rw[decide_eq_false (fun ⟨h,_⟩=>hal h)]
abbrev Lt (a b:qaQ):Prop:=qai a b<0
theorem Lt.tr {a b c:qaQ}(h1:Lt a b) (h2:Lt b c):Lt a c:=qih a b c h1 h2
theorem Lt.irr {a:qaQ}:¬Lt a a:=fun h=>by
 have:=(qha a a).2 rfl;unfold Lt at h;omega
theorem Lt.tri (a b:qaQ):Lt a b∨a=b∨Lt b a:=by
 have h1:=qni a b;have h2:=qha a b;unfold Lt;by_cases h:qai a b=0
 ·exact .inr (.inl (h2.1 h))
 ·omega
theorem Lt.le {a b c:qaQ}(h:Lt a b) (h2:¬Lt c b):Lt a c:=by
 rcases Lt.tri a c with q|q|q
 ·exact q
 ·subst q;exact absurd h h2
 ·exact absurd (q.tr h) h2
theorem Lt.le' {a b c:qaQ}(h2:¬Lt b a) (h:Lt b c):Lt a c:=by
 rcases Lt.tri a c with q|q|q
 ·exact q
 ·subst q;exact absurd h h2
 ·exact absurd (h.tr q) h2
abbrev Ent:Type:=qA
structure Cut {α:Type}(κ:α→qaQ) (v:qaQ) (xs A M B:List α):Prop where
 eq:xs=A++(M++B)
 lo:∀a∈A,Lt (κ a) v
 hi:∀b∈B,Lt v (κ b)
 mid:M=[]∨∃m,M=[m]∧κ m=v
open Classical in
theorem qnQ {α:Type}(κ:α→qaQ) (v:qaQ) {xs:List α}(hs:xs.Pairwise fun a b=>Lt (κ a) (κ b)) {k:Nat}(h0:k≤xs.length) (h1:∀(i:Nat) (hi:i<xs.length),i<k→qai (κ xs[i]) v<0) (h2:∀(i:Nat) (hi:i<xs.length),k≤i→0≤qai (κ xs[i]) v):
  ∃A M B,Cut κ v xs A M B∧A.length=k∧decide (∃h:k<xs.length,qai (κ xs[k]) v=0)= !M.isEmpty:=by
 have hA:∀a∈xs.take k,Lt (κ a) v:=fun a ha=>by
  obtain⟨i,hi,rfl⟩:=List.getElem_of_mem ha;rw[zae]at hi;rw[List.getElem_take];exact h1 i (by omega) (by omega)
 have hl:(xs.take k).length=k:=by simp;omega
 by_cases hk:k<xs.length
 ·have hd:=zaB hk;have hpw:=hs.drop (i:=k);rw[hd,List.pairwise_cons]at hpw;by_cases hz:qai (κ xs[k]) v=0
  ·refine⟨xs.take k,[xs[k]],xs.drop (k+1),⟨by rw[List.singleton_append,←hd,zay],hA,fun b hb=>?_,.inr ⟨_,rfl,(qha _ _).1 hz⟩⟩,hl,by simp[hk,hz]⟩;rw[←(qha _ _).1 hz];exact hpw.1 b hb
  ·refine⟨xs.take k,[],xs.drop k,⟨by rw[zaR,zay],hA,fun b hb=>?_,.inl rfl⟩,hl,by simp[hk,hz]⟩;have hp:Lt v (κ xs[k]):=by
    have:=h2 k hk (zax _);have:=qni (κ xs[k]) v;unfold Lt;omega
   rw[hd,zak]at hb;rcases hb with rfl|hb
   ·exact hp
   ·exact hp.tr (hpw.1 b hb)
 ·refine⟨xs,[],[],⟨by simp,fun a ha=>?_,fun b hb=>by simp at hb,.inl rfl⟩,by omega,by simp[hk]⟩;rw[zan (by omega)]at hA;exact hA a ha
abbrev Srt (es:List Ent):Prop:=es.Pairwise fun a b=>Lt a.1 b.1
theorem bsE_ok (N:Nat) (hB:N≤1099511627776) {xs:List Ent}(v:qaQ) (hs:Srt xs) (hk:∀x∈xs,x.1.length<N) (hN:xs.length+1<N):
  ∃A M B,Cut (fun e:Ent=>e.1) v xs A M B∧qbc N (xs,(v,((fun x0=>(qkj (fun y1=>y1.1) (qcX N x0))),())))=some (((A.length:Int),(!M.isEmpty,())),()):=by
 obtain⟨k,k1,k2,k3,k4⟩:=quF (N:=N) (([]:List qi),(0,())) (xs:=xs) (v:=v) (φ:=fun x0=>(qkj (fun y1=>y1.1) (qcX N x0))) (f:=fun e=>qai e.1 v) (fun a ha=>by
  simp only[qcX,qfk N a.1 v (hk a ha) hB,qf,qg,cond_true,qeE,Option.map_some]) (fun i j hi hj hij h0=>by
   rcases Nat.lt_or_ge i j with q|q
   ·have h:=List.pairwise_iff_getElem.1 hs i j hi hj q;refine Classical.byContradiction fun hc=>?_;have:=qih _ _ _ h (Int.not_le.1 hc);omega
   ·have:i=j:=by omega
    subst this;exact h0) (by omega) (by omega)
 obtain⟨A,M,B,c1,c2,c3⟩:=qnQ (fun e:Ent=>e.1) v hs k1 k2 k3;refine⟨A,M,B,c1,?_⟩;rw[c2,←c3];exact k4
theorem bsR_ok (N:Nat) (hB:N≤1099511627776) {xs:List qaQ}(v:qaQ) (hs:xs.Pairwise Lt) (hk:∀x∈xs,x.length<N) (hN:xs.length+1<N):
  ∃A M B,Cut (fun e:qaQ=>e) v xs A M B∧qU N (xs,(v,((fun x0=>(qkj (fun y1=>y1.1) (qY N x0))),())))=some (((A.length:Int),(!M.isEmpty,())),()):=by
 obtain⟨k,k1,k2,k3,k4⟩:=quF (N:=N) ([]:List qi) (xs:=xs) (v:=v) (φ:=fun x0=>(qkj (fun y1=>y1.1) (qY N x0))) (f:=fun e=>qai e v) (fun a ha=>by
  simp only[qfk N a v (hk a ha) hB,qeE,Option.map_some]) (fun i j hi hj hij h0=>by
   rcases Nat.lt_or_ge i j with q|q
   ·have h:=List.pairwise_iff_getElem.1 hs i j hi hj q;refine Classical.byContradiction fun hc=>?_;have:=qih _ _ _ h (Int.not_le.1 hc);omega
   ·have:i=j:=by omega
    subst this;exact h0) (by omega) (by omega)
 obtain⟨A,M,B,c1,c2,c3⟩:=qnQ (fun e:qaQ=>e) v hs k1 k2 k3;refine⟨A,M,B,c1,?_⟩;rw[c2,←c3];exact k4
open Classical in
noncomputable def loE (v:qaQ) (es:List Ent):List Ent:=es.filter fun e=>decide (Lt e.1 v)
open Classical in
noncomputable def hiE (v:qaQ) (es:List Ent):List Ent:=es.filter fun e=>decide (Lt v e.1)
noncomputable def qhu (v:qaQ) (w:Int) (es:List Ent):List Ent:=loE v es++(v,(w,()))::hiE v es
noncomputable def qiO (v:qaQ) (es:List Ent):List Ent:=loE v es++hiE v es
open Classical in
noncomputable def qj (v:qaQ) (es:List Ent):Option Int:=(es.find? fun e=>decide (e.1=v)).map fun e=>e.2.1
section
open Classical
variable {v:qaQ}{X es Y A M B:List Ent}
theorem qm3 {α:Type}{p:α→Prop} [DecidablePred p] {l:List α}(h:∀a∈l,p a):l.filter (fun a=>decide (p a))=l:=List.filter_eq_self.2 fun a ha=>decide_eq_true (h a ha)
theorem qqg {α:Type}{p:α→Prop} [DecidablePred p] {l:List α}(h:∀a∈l,¬p a):l.filter (fun a=>decide (p a))=[]:=List.filter_eq_nil_iff.2 fun a ha=>by simp[h a ha]
theorem Lt.asy {a b:qaQ}(h:Lt a b):¬Lt b a:=fun h2=>(h.tr h2).irr
theorem qpp (hX:∀a∈X,Lt a.1 v) (hY:∀b∈Y,Lt v b.1):loE v (X++(es++Y))=X++loE v es:=by
 unfold loE;rw[List.filter_append,List.filter_append,qm3 hX,qqg (fun b hb=>(hY b hb).asy),zaO]
theorem qpz (hX:∀a∈X,Lt a.1 v) (hY:∀b∈Y,Lt v b.1):hiE v (X++(es++Y))=hiE v es++Y:=by
 unfold hiE;rw[List.filter_append,List.filter_append,qm3 hY,qqg (fun b hb=>(hX b hb).asy),zaR]
theorem qtm {w:Int}(hX:∀a∈X,Lt a.1 v) (hY:∀b∈Y,Lt v b.1):qhu v w (X++(es++Y))=X++(qhu v w es++Y):=by
 simp only[qhu,qpp hX hY,qpz hX hY,zau,List.cons_append]
theorem quk (hX:∀a∈X,Lt a.1 v) (hY:∀b∈Y,Lt v b.1):qiO v (X++(es++Y))=X++(qiO v es++Y):=by
 simp only[qiO,qpp hX hY,qpz hX hY,zau]
theorem qs1 {α:Type}{p:α→Prop} [DecidablePred p] {l:List α}(h:∀a∈l,¬p a):l.find? (fun a=>decide (p a))=none:=List.find?_eq_none.2 fun a ha=>by simp[h a ha]
theorem qjZ (hX:∀a∈X,Lt a.1 v) (hY:∀b∈Y,Lt v b.1):qj v (X++(es++Y))=qj v es:=by
 unfold qj;rw[List.find?_append,List.find?_append,qs1 (l:=X) (fun a ha e=>(e▸hX a ha).irr),qs1 (l:=Y) (fun b hb e=>(e▸hY b hb).irr),Option.or_none,Option.none_or]
theorem Cut.lo_eq (c:Cut (fun e:Ent=>e.1) v es A M B):loE v es=A:=by
 rw[c.eq,qpp c.lo c.hi];rcases c.mid with rfl|⟨m,rfl,h⟩
 ·simp[loE]
 ·simp[loE,h,Lt.irr]
theorem Cut.hi_eq (c:Cut (fun e:Ent=>e.1) v es A M B):hiE v es=B:=by
 rw[c.eq,qpz c.lo c.hi];rcases c.mid with rfl|⟨m,rfl,h⟩
 ·simp[hiE]
 ·simp[hiE,h,Lt.irr]
theorem Cut.put (c:Cut (fun e:Ent=>e.1) v es A M B) (w:Int):qhu v w es=A++(v,(w,()))::B:=by rw[qhu,c.lo_eq,c.hi_eq]
theorem Cut.del (c:Cut (fun e:Ent=>e.1) v es A M B):qiO v es=A++B:=by rw[qiO,c.lo_eq,c.hi_eq]
theorem Cut.get (c:Cut (fun e:Ent=>e.1) v es A M B):qj v es=(M.head?).map fun e=>e.2.1:=by
 rw[c.eq,qjZ c.lo c.hi];rcases c.mid with rfl|⟨m,rfl,h⟩
 ·rfl
 ·simp[qj,h]
end
end
end Go.Proofs.Ytdiobaoelhdkoaa
namespace Go.Vi
open Go.Proofs.Ytdiobaoelhdkoaa (qj1 qke)
noncomputable section
structure Up {α:Type}(P:Int→Prop) (q q':List (Option (List α))):Prop where
 kp:Kp P q q'
 ln:qn q≤qn q'
section
variable {α:Type}{q q' q2:List (Option (List α))}{h:Hnd}{xs ys r':List α}{P Q:Int→Prop}{i:Int}
theorem Up.refl:Up P q q:=⟨Kp.refl,zaF _⟩
theorem Up.add:Up P q (qdc q r'):=⟨Kp.add,by rw[qfx];omega⟩
theorem Up.set (hi:0≤i) (hp:P i):Up P q (qdD q i r'):=⟨Kp.set hi hp,by rw[qpg];omega⟩
theorem Up.trans (h1:Up P q q') (h2:Up P q' q2):Up P q q2:=⟨h1.kp.trans h2.kp,Int.le_trans h1.ln h2.ln⟩
theorem Up.mono (h1:Up P q q') (h2:∀j,P j→Q j):Up Q q q':=⟨h1.kp.mono h2,h1.ln⟩
theorem Up.cut {α:Type}{q q':List (Option (List α))}{P Q:Int→Prop}(h:Up P q q') (hq:∀j,j<qn q→P j→Q j):Up Q q q':=⟨fun j hj r hr=>h.kp j (fun e=>hj (hq j (qP hr).2 e)) r hr,h.ln⟩
theorem Up.setn (h:Up P q q') {n:Int}(hn:qn q≤n):Up P q (qdD q' n r'):=⟨fun j hj r hr=>by
 rw[qcu (by rw[qv]at hn;omega) (by have:=(qP hr).2;omega)];exact h.kp j hj r hr,by rw[qpg];exact h.ln⟩
theorem up_of (h1:∀j,¬P j→j<qn q→qN q' j=qN q j) (h2:qn q≤qn q'):Up P q q':=⟨fun j hj r hr=>by rw[h1 j hj (qP hr).2];exact hr,h2⟩
theorem Sl.app (s:Sl q h xs) (ys:List α):∃q' h',qfF q h ys=some (q',h')∧Sl q' h' (xs++ys)∧(h'.1=h.1∨qn q≤h'.1)∧Up (fun j=>j=h.1) q q'∧(ys=[]→h'=h):=by
 rw[qj2,qqK];by_cases hy:ys.length=0
 ·rw[if_pos hy,List.length_eq_zero_iff.1 hy,zaO];exact⟨_,_,rfl,s,.inl rfl,Up.refl,fun _=>rfl⟩
 have hy0:∀ {P:Prop},ys=[]→P:=fun h=>by rw[h]at hy;exact absurd rfl hy
 rw[if_neg hy];rcases s with⟨rfl,rfl⟩|⟨r,h0,h1,h2,h3⟩
 ·rw[if_pos rfl,zaR];have e:=Sl.new (q:=q) (xs:=ys);rw[qv ys,qbW]at e;rw[←qv q];exact⟨_,_,rfl,e,.inr (zaF _),by rw[←qbW];exact Up.add,hy0⟩
 ·have hp:=qP h0;have hl:xs.length≤r.length:=by
   have:=congrArg List.length h3;rw[zae]at this;omega
  rw[if_neg (by omega),←qa9,h0];simp only;rw[h1,h2];by_cases hc:(xs.length:Int)+(ys.length:Int)≤(r.length:Int)
  ·rw[if_pos hc];refine⟨_,_,rfl,.inr ⟨_,by rw[←qec];exact qar h0,rfl,by simp,?_⟩,.inl rfl,by rw[←qec];exact Up.set hp.1 rfl,hy0⟩;simp only[zat,zag,h3];rw[zas (by simp)];exact zan (by simp)
  ·rw[if_neg hc];have hz:∀zs:List α,Sl (q.set h.1.toNat none++[some zs]) (((q.length:Nat):Int),(0,(zs.length:Int))) zs∧Up (fun j=>j=h.1) q (q.set h.1.toNat none++[some zs]):=fun zs=>by
    have hq:qn (q.set h.1.toNat none)=qn q:=by rw[qv,qv,List.length_set]
    have e:=Sl.new (q:=q.set h.1.toNat none) (xs:=zs);rw[hq,qv zs,qv q,qbW]at e;refine⟨e,up_of (fun j hj hl=>?_) (by rw[←qbW,qfx,hq];omega)⟩;rw[←qbW,qj1 (by rw[hq];exact hl)];exact qke hp.1 hj
   have hfr:qn q≤((q.length:Nat):Int):=by rw[qv];omega
   by_cases hx:(xs.length:Int)=(r.length:Int)∧(0:Int)=0
   ·rw[if_pos hx];have hx':xs=r:=by rw[←h3,zan (by omega)]
    subst hx';have:=hz (xs++ys);rw[zag,Int.natCast_add]at this;exact⟨_,_,rfl,this.1,.inr hfr,this.2,hy0⟩
   ·rw[if_neg hx,if_pos ⟨rfl,by omega⟩,zat,h3];have:=hz (xs++ys);rw[zag,Int.natCast_add]at this;exact⟨_,_,rfl,this.1,.inr hfr,this.2,hy0⟩
theorem Sl.part (s:Sl q h xs) {a e:Nat}(he:e≤xs.length):qcJ q (h.1,((a:Int),(e:Int)))=some ((xs.take e).drop a):=by
 rw[qls];rcases s with⟨rfl,rfl⟩|⟨r,h0,h1,h2,h3⟩
 ·simp
 ·have hp:=(qP h0).1;rw[if_neg (by show ¬h.1= -1;omega),←qa9,h0];simp only[Option.map_some,zat];rw[←h3,List.take_take,zaQ he]
end
section
variable {H E:Type}{q:H→List (Option (List E))}{u:H→List (Option (List E))→H}{d:E}{p:H}{h:Hnd}{xs:List E}
def gCl (q:H→List (Option (List E))) (u:H→List (Option (List E))→H) (b:Nat) (p:H) (x:Hnd×Unit):Option (H×(Hnd×Unit)):=
 let c0:=(qdc (q p) ([]:List E))
 let c1:=(qcJ c0 x.1)
 let c2:=(qn ([]:List E))
 let c3:=(qy c1 ([]:List E))
 let c4:=(qfF c0 ((qn (q p)),(0,c2)) c3)
 let c5:=(qy c4 (c0,((qn (q p)),(0,c2))))
 (bif ((eqI x.1.1 (-1))||((ltI x.1.2.1 x.1.2.2)||(ltI 0 x.1.2.1)))then(bif (eqI x.1.1 (-1))then(some (p,(((-1),(0,0)),())))else(bif ((qp c1)&&((qp c4)&&((leI 0 0)&&(qc1 c2 (qn c3) b))))then(some ((u p (c5.1)),(c5.2,())))else none))else none)
theorem qhh {b:Nat}(s:Sl (q p) h xs) {a e:Nat}(hae:a≤e) (he:e≤xs.length) (hn:0<a∨a<e) (hb:xs.length*b≤140737488355328):
  ∃q' h',gCl q u b p ((h.1,(qX h.2.1 (a:Int),qX h.2.1 (e:Int))),())=some (u p q',(h',()))∧Sl q' h' ((xs.take e).drop a)∧qn (q p)≤h'.1∧Up (fun _=>False) (q p) q':=by
 obtain⟨r,h0,_⟩:=s.row (k:=0) (by omega);have hp:=qP h0;delta gCl;dsimp -zeta only;extract_lets c0 c1 c2 c3 c4 c5;have e1:c1=some ((xs.take e).drop a):=by
  show qcJ (qdc (q p) []) (h.1,(qX h.2.1 (a:Int),qX h.2.1 (e:Int)))=_;rw[s.lo,qbp,qbp];exact s.add.part he
 have hl:((xs.take e).drop a).length=e-a:=by simp;omega
 have e3:c3=(xs.take e).drop a:=by show qy c1 _=_;rw[e1,qg]
 obtain⟨q',h',g1,g2,g3,g4,_⟩:=(Sl.new (q:=q p) (xs:=[])).app ((xs.take e).drop a);have e4:c4=some (q',h'):=by show qfF (qdc (q p) []) (qn (q p),(0,qn [])) c3=_;rw[e3];exact g1
 have e5:c5=(q',h'):=by show qy c4 _=_;rw[e4,qg]
 have hr:qc1 c2 (qn c3) b=true:=by
  rw[e3];exact qj8 (xs:=([]:List E)) (by rw[hl];exact Nat.le_trans (zam _ (by simp;omega)) hb)
 have k1:eqI h.1 (-1)=false:=by rw[qcc];simp;omega
 have k2:ltI (qX h.2.1 (a:Int)) (qX h.2.1 (e:Int))=decide (a<e)∧ltI 0 (qX h.2.1 (a:Int))=decide (0<a):=by
  rw[s.lo,qbp,qbp,qan,qan];simp
 refine⟨q',h',?_,by simpa using g2,?_,fun j _ r hr=>g4.kp _ (by have:=(qP hr).2;show ¬j=qn (q p);omega) _ (qeh hr),Int.le_trans (by rw[qfx];omega) g4.ln⟩
 ·rw[hr,k1,k2.1,k2.2,e1,e4,e5,qf,qf,qdX];rcases hn with hn|hn<;>simp[hn]
 ·rw[qfx]at g3;rcases g3 with g3|g3
  ·rw[g3];exact zaF _
  ·omega
theorem qr5 {q:List (Option (List E))}{h:Hnd}{xs:List E}(s:Sl q h xs) {k:Nat}(hk:k<xs.length):
  ∃q' r,qfF q (h.1,(0,(k:Int))) (xs.drop (k+1))=some (q',(h.1,(0,((xs.length-1:Nat):Int))))∧qN q' h.1=some r∧r.take (xs.length-1)=xs.eraseIdx k∧xs.length≤r.length∧Up (fun j=>j=h.1) q q':=by
 obtain⟨q',r,h1,h2,h3,h4,h5⟩:=qtD s hk;refine⟨q',r,h1,h2,h3,h4,h5,?_⟩;obtain⟨r0,h0,_,hl⟩:=s.row hk;have hp:=qP h0;rw[qj2,qqK]at h1;split at h1
 ·injection h1 with h1;injection h1 with h1;rw[h1];exact zaF _
 ·rw[if_neg (by show ¬h.1= -1;omega),←qa9,h0]at h1;rename_i hy;rw[zal]at hy;simp only[zal]at h1;rw[if_pos (by omega)]at h1;injection h1 with h1;injection h1 with h1;rw[←h1,qv,qv,List.length_set];exact zaF _
theorem qvy {q q':List (Option (List E))}{h:Hnd}(e:qrC q h d=some q'):qn q'=qn q:=by
 rw[qmR,qra]at e;split at e
 ·injection e with e;rw[e]
 ·cases hh:(if 0≤h.1 then(q[h.1.toNat]?).join else none)with
  |none=>rw[hh]at e;cases e
  |some r=>
   rw[hh]at e;injection e with e;rw[←e,qv,qv,List.length_set]
theorem qs9 {b:Nat}(hqu:∀p v,q (u p v)=v) (huu:∀p v w,u (u p v) w=u p w) (s:Sl (q p) h xs) {k:Nat}(hk:k<xs.length) (hb:xs.length*b≤140737488355328):
  ∃q' h',gDel q u (fun p=>p) (fun p v _ _=>u p v) d b p (h,((k:Int),(((k+1:Nat):Int),())))=some (u p q',(h',()))∧Sl q' h' (xs.eraseIdx k)∧h'.1=h.1∧Up (fun j=>j=h.1) (q p) q':=by
 delta gDel;dsimp -zeta only;extract_lets c0 c1 c2 c3;have hl:(xs.drop (k+1)).length=xs.length-(k+1):=zal;obtain⟨r0,t0,t1,t2⟩:=s.row hk;have e0:c0=some (xs.drop (k+1)):=by
  show qcJ (q p) (h.1,(qX h.2.1 ((k+1:Nat):Int),qX h.2.1 (qaS h.2.2 h.2.1)))=_;rw[s.len,s.lo,qbp,qbp,s.part (zax _),List.take_length]
 have e1:c1=xs.drop (k+1):=by
  show qy c0 _=_;rw[e0,qg]
 obtain⟨q',r,g1,g2,g3,g4,g5⟩:=qr5 s hk;have e2:c2=some (q',(h.1,(0,((xs.length-1:Nat):Int)))):=by
  show qfF (q p) (h.1,(qX h.2.1 0,qX h.2.1 (k:Int))) c1=_;rw[e1,s.lo,qbp,show qX 0 0=0 from by rw[qed];rfl];exact g1
 have e3:c3=(q',(h.1,(0,((xs.length-1:Nat):Int)))):=by
  show qy c2 _=_;rw[e2,qg]
 clear_value c0 c1 c2 c3;subst e0 e1 e2 e3;have s2:Sl q' (h.1,(0,(xs.length:Int))) (r.take xs.length):= .inr ⟨r,g2,rfl,by simp;omega,by simp⟩;have hl2:(r.take xs.length).length=xs.length:=by rw[zae];omega
 obtain⟨q3,k1,k2,k3⟩:=qu0 s2 (i:=xs.length-1) (by omega) d;rw[List.take_take,zaQ (by omega),g3]at k2;refine⟨q3,(h.1,(0,((xs.length-1:Nat):Int))),?_,k2,rfl,g5.trans ⟨k3,by rw[qvy k1];exact zaF _⟩⟩;rw[s.len,s.lo,qbp,show qX 0 0=0 from by rw[qed];rfl];have hr:qc1 (k:Int) (qn (xs.drop (k+1))) b=true:=by
  have:=qj8 (xs:=xs.take k) (ys:=xs.drop (k+1)) (b:=b) (by
   refine Nat.le_trans (zam _ ?_) hb;rw[zae,zal];omega)
  rw[qv,zae,zaQ (by omega)]at this;exact this
 have e4:qrC q' (h.1,(qX 0 (qaS ((xs.length-1:Nat):Int) 0),qX 0 (xs.length:Int))) d=some q3:=by
  rw[qkV];rw[hl2]at k1;exact k1
 rw[qa3 (by rw[qdv,qdX];simp;omega),qa7 (by rw[qcc];simp;omega),qak,qa3 (by
  rw[qdv,qdv,qdX,qf,qf,hr];simp;omega),qak,qdn]
 dsimp only;rw[hqu,e4,g2,qa3 (by
  rw[qf,qf,qg,qkV,qdv,qdX,qv,qkV];simp;omega),qdn,qg,huu]
end
end
end Go.Vi
namespace Go.Proofs.Ytdiobaoelhdkoaa
open Go.Vi
noncomputable section
theorem cl2 (N:Nat) (p:HpP) (x:Hnd×Unit):qal N p x=gCl HpP.q2 HpP.u2 32 p x:=by kernel_rfl
theorem cl3 (N:Nat) (p:HpP) (x:Hnd×Unit):qaf N p x=gCl HpP.q3 HpP.u3 24 p x:=by kernel_rfl
theorem cl4 (N:Nat) (p:HpP) (x:Hnd×Unit):qaq N p x=gCl HpP.q4 HpP.u4 8 p x:=by kernel_rfl
theorem dl2 (N:Nat) (p:HpP) (x:Hnd×(Int×(Int×Unit))):qa1 N p x=gDel HpP.q2 HpP.u2 (fun p=>p) (fun p v _ _=>p.u2 v) zP2 32 p x:=by kernel_rfl
theorem dl3 (N:Nat) (p:HpP) (x:Hnd×(Int×(Int×Unit))):qbx N p x=gDel HpP.q3 HpP.u3 (fun p=>p) (fun p v _ _=>p.u3 v) zP3 24 p x:=by kernel_rfl
theorem dl4 (N:Nat) (p:HpP) (x:Hnd×(Int×(Int×Unit))):qbb N p x=gDel HpP.q4 HpP.u4 (fun p=>p) (fun p v _ _=>p.u4 v) ((-1),0) 8 p x:=by kernel_rfl
end
end Go.Proofs.Ytdiobaoelhdkoaa
namespace Go.Proofs.Ytdiobaoelhdkoaa
open Go.Vi
noncomputable section
inductive It where
 |en (e:Ent)
 |sp (k:qaQ)
def It.key:It→qaQ
 |.en e=>e.1
 |.sp k=>k
def RI:It→It→Prop
 |.sp k,.en b=>¬Lt b.1 k
 |a,b=>Lt a.key b.key
theorem RI.tr {a b c:It}(h1:RI a b) (h2:RI b c):RI a c:=by
 cases a<;>cases b<;>cases c<;>simp only[RI,It.key]at *
 ·exact h1.tr h2
 ·exact h1.tr h2
 ·exact h1.le h2
 ·exact h1.tr h2
 ·exact fun h=>h1 (h2.tr h)
 ·exact Lt.le' h1 h2
 ·exact fun h=>h2 (h.tr h1)
 ·exact h1.tr h2
def qhI (L:List It):List Ent:=L.filterMap fun|.en e=>some e|.sp _=>none
theorem qaR (X Y:List It):qhI (X++Y)=qhI X++qhI Y:=List.filterMap_append
theorem qfZ {L:List It}{e:Ent}:e∈qhI L↔It.en e∈L:=by
 unfold qhI;rw[List.mem_filterMap];constructor
 ·rintro⟨x,h1,h2⟩;cases x with
  |en a=>injection h2 with h2;rw[←h2];exact h1
  |sp k=>cases h2
 ·exact fun h=>⟨_,h,rfl⟩
theorem qsU (es:List Ent):qhI (es.map .en)=es:=by
 induction es with
 |nil=>rfl
 |cons e es ih=>show e::qhI (es.map .en)=_;rw[ih]
theorem qjT {L:List It}(h:L.Pairwise RI):Srt (qhI L):=by
 unfold qhI;rw[Srt,List.pairwise_filterMap];refine h.imp fun {a b} hab x hx y hy=>?_;cases a<;>cases b<;>simp only[Option.some.injEq,reduceCtorEq]at hx hy;subst hx hy;exact hab
def Cap (L:List It):Prop:=(∃e L',L=.en e::L')∧∃e L',L=L'++[.en e]
theorem Cap.app {L M R:List It}(h1:Cap L) (h2:Cap R):Cap (L++(M++R)):=by
 obtain⟨⟨e,L',rfl⟩,_⟩:=h1;obtain⟨_,f,R',rfl⟩:=h2;exact⟨⟨e,L'++(M++(R'++[It.en f])),rfl⟩,f,.en e::L'++(M++R'),by simp⟩
theorem quv {es:List Ent}(h:0<es.length):Cap (es.map .en):=by
 cases es with
 |nil=>cases h
 |cons e es=>
  refine⟨⟨e,es.map .en,rfl⟩,(e::es).getLast (by simp),((e::es).dropLast).map .en,?_⟩;have:=List.dropLast_concat_getLast (l:=e::es) (by simp);conv=>lhs;rw[←this]
  simp
def Bd (e:Ent) (X Y:List It):Prop:=(∀x∈X,RI x (.en e))∧∀y∈Y,RI (.en e) y
theorem qtx {X L L' Y:List It}(h:(X++(L++Y)).Pairwise RI) (h':L'.Pairwise RI) (cap:Cap L') (hb:∀e∈qhI L',Bd e X Y):(X++(L'++Y)).Pairwise RI:=by
 rw[zaL,zaL]at h⊢
 obtain⟨hX,⟨_,hY,_⟩,hXY⟩:=h;obtain⟨⟨e,L1,c1⟩,f,L2,c2⟩:=cap;have be:=hb e (qfZ.2 (by rw[c1];exact .head _));have bf:=hb f (qfZ.2 (by rw[c2];simp));have h1:∀x∈X,∀b∈L',RI x b:=fun x hx b hb'=>by
  rw[c1,zak]at hb';rw[c1,List.pairwise_cons]at h';rcases hb' with rfl|hb'
  ·exact be.1 x hx
  ·exact(be.1 x hx).tr (h'.1 b hb')
 refine⟨hX,⟨h',hY,fun b hb' y hy=>?_⟩,fun x hx b hb'=>?_⟩
 ·rw[c2,zaf]at hb';rw[c2,zaL]at h';rcases hb' with hb'|hb'
  ·exact(h'.2.2 b hb' _ (by simp)).tr (bf.2 y hy)
  ·rw[zah.1 hb'];exact bf.2 y hy
 ·rcases zaf.1 hb' with hb'|hb'
  ·exact h1 x hx b hb'
  ·exact hXY x hx b (zaa _ hb')
theorem bd_of {X L Y:List It}(h:(X++(L++Y)).Pairwise RI) {e:Ent}(he:e∈qhI L):Bd e X Y:=by
 rw[zaL,zaL]at h;exact⟨fun x hx=>h.2.2 x hx _ (zab _ (qfZ.1 he)),fun y hy=>h.2.1.2.2 _ (qfZ.1 he) y hy⟩
theorem qrP {X L R Y:List It}{k:qaQ}(h:(X++(L++(R++Y))).Pairwise RI) (cl:Cap L) {e:Ent}{R':List It}(cr:R=.en e::R') (hk:e.1=k):(X++(L++(.sp k::R++Y))).Pairwise RI:=by
 obtain⟨_,f,L2,rfl⟩:=cl;subst cr hk;have h2:((X++L2++[It.en f])++(It.en e::(R'++Y))).Pairwise RI:=by simpa using h
 rw[zaL]at h2;have hf:RI (.en f) (.sp e.1):=h2.2.2 (.en f) (by simp) (.en e) (.head _);have hs:RI (.sp e.1) (.en e):=Lt.irr;have h3:((X++L2++[It.en f])++(It.sp e.1::It.en e::(R'++Y))).Pairwise RI:=by
  rw[zaL];refine⟨h2.1,List.pairwise_cons.2 ⟨fun b hb=>?_,h2.2.1⟩,fun a ha b hb=>?_⟩
  ·rcases zak.1 hb with rfl|hb
   ·exact hs
   ·exact hs.tr ((List.pairwise_cons.1 h2.2.1).1 b hb)
  ·rcases zak.1 hb with rfl|hb
   ·have:=h2.1;rw[zaL]at this;rcases zaf.1 ha with ha|ha
    ·exact(this.2.2 a ha _ (.head _)).tr hf
    ·rw[zah.1 ha];exact hf
   ·exact h2.2.2 a ha b hb
 simpa using h3
def pre:List qaQ→List (List It)→List It
 |k::ks,a::bs=>a++It.sp k::pre ks bs
 |_,_=>[]
def suf:List qaQ→List (List It)→List It
 |k::ks,a::bs=>It.sp k::(a++suf ks bs)
 |_,_=>[]
def qfm (ks:List qaQ):List (List It)→List It
 |[]=>[]
 |a::bs=>a++suf ks bs
theorem qeS:(KA:List qaQ)→(A:List (List It))→KA.length=A.length→(KB:List qaQ)→(c:List It)→(B:List (List It))→qfm (KA++KB) (A++c::B)=pre KA A++(c++suf KB B)
 |[],[],_,_,_,_=>rfl
 |[],_::_,h,_,_,_=>by cases h
 |_::_,[],h,_,_,_=>by cases h
 |k::KA,a::A,h,KB,c,B=>by
  have ih:=qeS KA A (by simpa using h) KB c B;cases A with
  |nil=>cases KA with
   |nil=>simp[qfm,pre,suf]
   |cons _ _=>cases h
  |cons a' A=>
   simp only[List.cons_append,qfm,pre,suf,zau]at ih⊢
   rw[ih]
theorem qss:(K1:List qaQ)→(B1:List (List It))→K1.length=B1.length→(K2:List qaQ)→(B2:List (List It))→suf (K1++K2) (B1++B2)=suf K1 B1++suf K2 B2
 |[],[],_,_,_=>rfl
 |[],_::_,h,_,_=>by cases h
 |_::_,[],h,_,_=>by cases h
 |k::K1,b::B1,h,K2,B2=>by
  simp only[List.cons_append,suf,zau,qss K1 B1 (by simpa using h) K2 B2]
theorem qoj {K1 K2:List qaQ}{k:qaQ}{C1 C2:List (List It)}(h1:C1.length=K1.length+1) (h2:0<C2.length):qfm (K1++k::K2) (C1++C2)=qfm K1 C1++ .sp k::qfm K2 C2:=by
 cases C1 with
 |nil=>cases h1
 |cons c C1=>cases C2 with
  |nil=>cases h2
  |cons d C2=>
   simp only[List.cons_append,qfm,zau];rw[qss _ _ (by simpa using h1.symm)];rfl
theorem qsK:(ks:List qaQ)→(bs:List (List It))→ks.length=bs.length→zaU (ks.map It.sp) (suf ks bs)
 |[],_,_=>by simp
 |_::_,[],h=>by cases h
 |k::ks,a::bs,h=>by
  simp only[zaC,suf];exact(zaU.trans (qsK ks bs (by simpa using h)) (zaM _ _)).cons_cons _
abbrev zH:Hnd:=(-1,(0,0))
structure Lf where
 i:Int
 h:Hnd
 es:List Ent
structure Nd (α:Type) where
 i:Int
 hk:Hnd
 hc:Hnd
 ks:List qaQ
 cs:List α
@[reducible] def Tr:Nat→Type
 |0=>Lf
 |d+1=>Nd (Tr d)
@[match_pattern,reducible] def Tr.leaf (i:Int) (h:Hnd) (es:List Ent):Tr 0:=Lf.mk i h es
@[match_pattern,reducible] def Tr.node {d:Nat}(i:Int) (hk hc:Hnd) (ks:List qaQ) (cs:List (Tr d)):Tr (d+1):=Nd.mk i hk hc ks cs
def Tr.id: {d:Nat}→Tr d→Int
 |0,.leaf i _ _=>i
 |_+1,.node i _ _ _ _=>i
abbrev Tr.ptr {d:Nat}(t:Tr d):Int×Int:=(t.id,0)
def Tr.fill: {d:Nat}→Tr d→Nat
 |0,.leaf _ _ es=>es.length
 |_+1,.node _ _ _ _ cs=>cs.length
def Tr.its: {d:Nat}→Tr d→List It
 |0,.leaf _ _ es=>es.map .en
 |_+1,.node _ _ _ ks cs=>qfm ks (cs.map fun c=>c.its)
abbrev Tr.es {d:Nat}(t:Tr d):List Ent:=qhI t.its
def cell (k:Nat) (h:Hnd):List (Nat×Int):=if 0≤h.1 then[(k,h.1)]else[]
def Tr.fp: {d:Nat}→Tr d→List (Nat×Int)
 |0,.leaf i h _=>(1,i)::cell 2 h
 |_+1,.node i hk hc _ cs=>(1,i)::(cell 3 hk++(cell 4 hc++cs.flatMap fun c=>c.fp))
def Rp (p:HpP): {d:Nat}→Tr d→Prop
 |0,.leaf i h es=>qN p.q1 i=some [(h,(zH,(zH,())))]∧Sl p.q2 h es
 |_+1,.node i hk hc ks cs=>qN p.q1 i=some [(zH,(hk,(hc,())))]∧Sl p.q3 hk ks∧Sl p.q4 hc (cs.map fun c=>c.ptr)∧∀c∈cs,Rp p c
def Fil (o:Nat): {d:Nat}→Tr d→Prop
 |0,.leaf _ _ _=>True
 |_+1,.node _ _ _ ks cs=>cs.length=ks.length+1∧∀c∈cs,(o+1)/2≤c.fill∧c.fill≤o∧Fil o c
structure Ord {d:Nat}(t:Tr d):Prop where
 pw:t.its.Pairwise RI
 kl:∀x∈t.its,x.key.length≤12
theorem qoR:(c:List It)→(ks:List qaQ)→(cs:List (List It))→ks.length=cs.length→Cap c→(∀c∈cs,Cap c)→Cap (qfm ks (c::cs))
 |c,[],[],_,h,_=>by simpa[qfm,suf]using h
 |_,[],_::_,h,_,_=>by cases h
 |_,_::_,[],h,_,_=>by cases h
 |c,k::ks,d::cs,hl,h,hc=>by
  have ih:=qoR d ks cs (by simpa using hl) (hc d (.head _)) fun x hx=>hc x (.tail _ hx);have:=Cap.app (M:=[.sp k]) h ih;simpa[qfm,suf]using this
theorem Tr.cap {o:Nat}(ho:1≤o): {d:Nat}→(t:Tr d)→Fil o t→0<t.fill→Cap t.its
 |0,.leaf _ _ es,_,h=>quv h
 |d+1,.node _ _ _ ks cs,hf,h=>by
  have hc:∀c∈cs,Cap c.its:=fun c hc=>c.cap ho (hf.2 c hc).2.2 (by have:=(hf.2 c hc).1;omega);have hl:=hf.1;cases cs with
  |nil=>cases h
  |cons c cs=>
   refine qoR c.its ks _ (by simpa using hl.symm) (hc c (.head _)) fun x hx=>?_;obtain⟨y,hy,rfl⟩:=List.mem_map.1 hx;exact hc y (.tail _ hy)
structure Fr (F:List (Nat×Int)) (p p':HpP):Prop where
 q0:p'.q0=p.q0
 q5:p'.q5=p.q5
 q6:p'.q6=p.q6
 q7:p'.q7=p.q7
 q8:p'.q8=p.q8
 k1:Up (fun j=>(1,j)∈F) p.q1 p'.q1
 k2:Up (fun j=>(2,j)∈F) p.q2 p'.q2
 k3:Up (fun j=>(3,j)∈F) p.q3 p'.q3
 k4:Up (fun j=>(4,j)∈F) p.q4 p'.q4
def lnK (p:HpP):Nat→Int
 |1=>qn p.q1
 |2=>qn p.q2
 |3=>qn p.q3
 |_=>qn p.q4
def Sub (p:HpP) (F F':List (Nat×Int)):Prop:=∀x∈F',x∈F∨lnK p x.1≤x.2
def Old (p:HpP) (F:List (Nat×Int)):Prop:=∀x∈F,x.2<lnK p x.1
section
variable {F F' F2:List (Nat×Int)}{p p' p2:HpP}
theorem Fr.refl:Fr F p p:=⟨rfl,rfl,rfl,rfl,rfl,Up.refl,Up.refl,Up.refl,Up.refl⟩
theorem Fr.ln (h:Fr F p p') (k:Nat):lnK p k≤lnK p' k:=by
 unfold lnK;split
 ·exact h.k1.ln
 ·exact h.k2.ln
 ·exact h.k3.ln
 ·exact h.k4.ln
theorem Sub.refl:Sub p F F:=fun _ h=>.inl h
theorem Sub.trans (h1:Sub p F F') (h:Fr F p p') (h2:Sub p' F' F2):Sub p F F2:=fun x hx=>by
 rcases h2 x hx with g|g
 ·exact h1 x g
 ·exact .inr (Int.le_trans (h.ln _) g)
theorem Fr.sub (h:Fr F' p p') (hs:Sub p F F'):Fr F p p':=by
 have key:∀k j,j<lnK p k→(k,j)∈F'→(k,j)∈F:=fun k j hj hm=>by
  rcases hs _ hm with g|g
  ·exact g
  ·simp only at g;omega
 exact⟨h.q0,h.q5,h.q6,h.q7,h.q8,h.k1.cut fun j=>key 1 j,h.k2.cut fun j=>key 2 j,h.k3.cut fun j=>key 3 j,h.k4.cut fun j=>key 4 j⟩
theorem Fr.trans1 (h1:Fr F p p') (h2:Fr F p' p2):Fr F p p2:=⟨h2.q0.trans h1.q0,h2.q5.trans h1.q5,h2.q6.trans h1.q6,h2.q7.trans h1.q7,h2.q8.trans h1.q8,h1.k1.trans h2.k1,h1.k2.trans h2.k2,h1.k3.trans h2.k3,h1.k4.trans h2.k4⟩
theorem Fr.trans (h1:Fr F p p') (hs:Sub p F F') (h2:Fr F' p' p2):Fr F p p2:=by
 have cut:∀ {α:Type}{a b c:List (Option (List α))}(k:Nat),qn a=lnK p k→Up (fun j=>(k,j)∈F) a b→Up (fun j=>(k,j)∈F') b c→Up (fun j=>(k,j)∈F) a c:=fun k hk u1 u2=>by
  refine⟨fun j hj r hr=>u2.kp j (fun e=>?_) r (u1.kp j hj r hr),Int.le_trans u1.ln u2.ln⟩;rcases hs _ e with g|g
  ·exact hj g
  ·have:=(qP hr).2;simp only at g;omega
 exact⟨h2.q0.trans h1.q0,h2.q5.trans h1.q5,h2.q6.trans h1.q6,h2.q7.trans h1.q7,h2.q8.trans h1.q8,cut 1 rfl h1.k1 h2.k1,cut 2 rfl h1.k2 h2.k2,cut 3 rfl h1.k3 h2.k3,cut 4 rfl h1.k4 h2.k4⟩
theorem qno {α:Type}{q q':List (Option (List α))}{h:Hnd}{xs:List α}{k:Nat}(s:Sl q h xs) (u:Up (fun j=>(k,j)∈F) q q') (hn:∀x∈cell k h,x∉F):Sl q' h xs:=s.kp u.kp fun h0=>hn _ (by rw[cell,if_pos h0];exact .head _)
theorem Rp.fr (h:Fr F p p'): {d:Nat}→(t:Tr d)→Rp p t→(∀x∈t.fp,x∉F)→Rp p' t
 |0,.leaf i hh es,hr,hn=>⟨h.k1.kp _ (hn _ (.head _)) _ hr.1,qno hr.2 h.k2 fun x hx=>hn x (.tail _ hx)⟩
 |d+1,.node i hk hc ks cs,hr,hn=>by
  have hm:∀x,x∈cell 3 hk∨x∈cell 4 hc∨x∈cs.flatMap (fun c=>c.fp)→x∉F:=fun x hx=>hn x (zaj _ (by simpa using hx));exact⟨h.k1.kp _ (hn _ (.head _)) _ hr.1,qno hr.2.1 h.k3 fun x hx=>hm x (.inl hx),qno hr.2.2.1 h.k4 fun x hx=>hm x (.inr (.inl hx)),fun c hc=>Rp.fr h c (hr.2.2.2 c hc) fun x hx=>hm x (.inr (.inr (List.mem_flatMap.2 ⟨c,hc,hx⟩)))⟩
theorem qnm {α:Type}{q:List (Option (List α))}{h:Hnd}{xs:List α}{k:Nat}(s:Sl q h xs) (hk:qn q=lnK p k):Old p (cell k h):=fun x hx=>by
 unfold cell at hx;split at hx
 ·rw[zah.1 hx,←hk];exact s.lt
 ·cases hx
theorem Rp.old: {d:Nat}→(t:Tr d)→Rp p t→Old p t.fp
 |0,.leaf i hh es,hr,x,hx=>by
  rcases zak.1 hx with rfl|hx
  ·exact(qP hr.1).2
  ·exact qnm hr.2 rfl x hx
 |d+1,.node i hk hc ks cs,hr,x,hx=>by
  rcases zak.1 hx with rfl|hx
  ·exact(qP hr.1).2
  rcases zaf.1 hx with hx|hx
  ·exact qnm hr.2.1 rfl x hx
  rcases zaf.1 hx with hx|hx
  ·exact qnm hr.2.2.1 rfl x hx
  obtain⟨c,hc,hx⟩:=List.mem_flatMap.1 hx;exact Rp.old c (hr.2.2.2 c hc) x hx
end
end
end Go.Proofs.Ytdiobaoelhdkoaa
namespace Go.Proofs.Ytdiobaoelhdkoaa
open Go.Vi
noncomputable section
theorem qsk (ps:List qQ) {k sz:Nat}{q:qQ}{e:Ty}(hq:qcg k ps=some q) (h1:sz=q.e.size) (h2:q.e.size=e.size) {h:Int×(Int×Int)}{xs:List q.e.den}{ys:List e.den}(hs:Sl q.rows h xs) (hy:mapO (qgq ps e q.e) xs=some ys):qgq ps (.slice e) (.sl k sz) h=some ys:=by
 simp only[qgq,hq];rcases hs with⟨rfl,rfl⟩|⟨r,h0,g1,g2,g3⟩
 ·rw[if_pos rfl];exact hy
 ·have:=(qP h0).1;rw[if_neg (by omega),h0];cases xs with
  |nil=>
   rw[if_pos ⟨.inl g1,h1,h2⟩];simp only[g1,g2,List.length_nil];exact hy
  |cons x xs=>
   rw[if_pos ⟨.inl g1,h1,h2⟩];simp only[g1,g2];rw[show((((x::xs).length:Nat):Int)).toNat=(x::xs).length from zat _,g3];exact hy
theorem qoY {α:Type}{f:α→Option α}(h:∀x,f x=some x) (xs:List α):mapO f xs=some xs:=qjV.2 ⟨rfl,fun k h1 h2=>h _⟩
theorem qkI (p:HpP) {h:Hnd}{xs:List Ent}(s:Sl p.q2 h xs):qfS (qR ksP p) (.slice qz) (.sl 2 2) h=some xs:=by
 rw[qnC];exact qsk (qR ksP p) (k:=2) (q:=⟨2,45,qz,p.q2⟩) rfl rfl rfl s (qoY (fun x=>rfl) xs)
theorem qvM (p:HpP) {h:Hnd}{xs:List EP3}(s:Sl p.q3 h xs):qfS (qR ksP p) (.slice (.slice ql)) (.sl 3 1) h=some xs:=by
 rw[qnC];exact qsk (qR ksP p) (k:=3) (q:=⟨3,24,(.slice ql),p.q3⟩) rfl rfl rfl s (qoY (fun x=>rfl) xs)
variable {p:HpP}{o N:Nat}
theorem qfe {i:Int}{a:EP1}(h:qN p.q1 i=some [a]):p.g1 i 0=a∧p.s1 i=true∧leI 0 i=true:=by
 refine⟨?_,?_,leT (qP h).1⟩
 ·show qJ (qy (qN p.q1 i) _) 0 _=_;rw[h,qg];exact qg6 (i:=0) rfl
 ·show qp (qN p.q1 i)=_;rw[h,qf]
theorem qtf {i:Int}{a:EP1}(h:qN p.q1 i=some [a]) (v:EP1):p.w1 i 0 v=p.u1 (qdD p.q1 i [v]):=by
 show p.u1 (qdD p.q1 i (qdz (qy (qN p.q1 i) _) 0 v))=_;rw[h,qg,qbv];rfl
theorem Fil.ne {d:Nat}{i:Int}{hk hc:Hnd}{ks:List qaQ}{cs:List (Tr d)}(hf:Fil o (Tr.node i hk hc ks cs)):0<cs.length:=by
 have:=hf.1;omega
theorem qcY {d:Nat}{t:Tr d}(hr:Rp p t) (hf:Fil o t):qr N p (t.ptr,())=some (p,(decide (d=0),())):=by
 match d,t,hr,hf with
 |0,.leaf i h es,hr,hf=>
  obtain⟨a1,a2,a3⟩:=qfe hr.1;simp only[qr,Tr.id,a1,a2,a3,zaw,cond_true,qcc,qdF];rfl
 |d+1,.node i hk hc ks cs,hr,hf=>
  obtain⟨a1,a2,a3⟩:=qfe hr.1;have hl:=hr.2.2.1.len;rw[zaH]at hl;have:=hf.ne;simp only[qr,Tr.id,a1,a2,a3,zaw,cond_true,qa4,hl];rw[decide_eq_false (by omega),decide_eq_false (by omega)]
theorem qi4 {d:Nat}{t:Tr d}(hr:Rp p t) (hf:Fil o t):qV N p (t.ptr,())=some (p,((t.fill:Int),())):=by
 have hl:=qcY (N:=N) hr hf;match d,t,hr,hf,hl with
 |0,.leaf i h es,hr,hf,hl=>
  obtain⟨a1,a2,a3⟩:=qfe hr.1;simp only[qV,hl,qf,qg,decide_true,qak,qdn,Tr.id,a1,a2,a3,zaw,cond_true,hr.2.len,Tr.fill]
 |d+1,.node i hk hc ks cs,hr,hf,hl=>
  obtain⟨a1,a2,a3⟩:=qfe hr.1;have hl2:=hr.2.2.1.len;rw[zaH]at hl2;simp only[qV,hl,qf,qg,qak,qdn,Tr.id,a1,a2,a3,zaw,cond_true,hl2,Tr.fill,Nat.succ_ne_zero,decide_false,cond_false]
structure Nb (N:Nat):Prop where
 lo:2000000<N
 hi:N≤1099511627776
theorem Ord.en {i:Int}{h:Hnd}{es:List Ent}(ho:Ord (Tr.leaf i h es)):Srt es∧∀x∈es,x.1.length≤12:=by
 have:=qjT ho.pw;rw[Tr.its,qsU]at this;exact⟨this,fun x hx=>ho.kl (.en x) (List.mem_map_of_mem hx)⟩
theorem qiz (hN:Nb N) {i:Int}{h:Hnd}{es:List Ent}(hr:Rp p (Tr.leaf i h es)) (ho:Ord (Tr.leaf i h es)) (hl:es.length≤1000000) (v:qaQ):
  ∃A M B,Cut (fun e:Ent=>e.1) v es A M B∧qbr N p ((i,0),(v,()))=some (p,((A.length:Int),(!M.isEmpty,()))):=by
 have hn:=hN.lo;obtain⟨A,M,B,c,e⟩:=bsE_ok N hN.hi v ho.en.1 (fun x hx=>by have:=ho.en.2 x hx;omega) (by omega);refine⟨A,M,B,c,?_⟩;obtain⟨a1,a2,a3⟩:=qfe hr.1;simp only[qbr,a1,a2,a3,qkI p hr.2,qf,qg,e,zaw,cond_true]
theorem Bd.val {e e':Ent}{X Y:List It}(h:Bd e X Y) (he:e.1=e'.1):Bd e' X Y:=by
 refine⟨fun x hx=>?_,fun y hy=>?_⟩
 ·have:=h.1 x hx;cases x<;>simpa only[RI,It.key,←he]using this
 ·have:=h.2 y hy;cases y<;>simpa only[RI,It.key,←he]using this
theorem quE {e:It}:(K:List qaQ)→(A:List (List It))→(pre K A).Pairwise RI→(∀k∈K,RI (.sp k) e)→∀x∈pre K A,RI x e
 |[],_,_,_,x,h=>by simp[pre]at h
 |_::_,[],_,_,x,h=>by simp[pre]at h
 |k::K,a::A,hp,hk,x,h=>by
  rw[pre]at hp h;rw[zaL]at hp;rcases zaf.1 h with h|h
  ·exact(hp.2.2 x h _ (.head _)).tr (hk k (.head _))
  ·rcases zak.1 h with rfl|h
   ·exact hk k (.head _)
   ·exact quE K A (List.pairwise_cons.1 hp.2.1).2 (fun k hk'=>hk k (.tail _ hk')) x h
theorem quR {e:It}:(K:List qaQ)→(A:List (List It))→(suf K A).Pairwise RI→(∀k∈K,RI e (.sp k))→∀x∈suf K A,RI e x
 |[],_,_,_,x,h=>by simp[suf]at h
 |_::_,[],_,_,x,h=>by simp[suf]at h
 |k::K,a::A,hp,hk,x,h=>by
  rw[suf]at hp h;rw[List.pairwise_cons,zaL]at hp;rcases zak.1 h with rfl|h
  ·exact hk k (.head _)
  ·rcases zaf.1 h with h|h
   ·exact(hk k (.head _)).tr (hp.1 x (zab _ h))
   ·exact quR K A hp.2.2.1 (fun k hk'=>hk k (.tail _ hk')) x h
theorem qtJ {d:Nat}{i:Int}{hk hc:Hnd}{ks:List qaQ}{cs:List (Tr d)}(hf:Fil o (Tr.node i hk hc ks cs)) (ho:Ord (Tr.node i hk hc ks cs)):ks.Pairwise Lt∧∀k∈ks,k.length≤12:=by
 have hl:=hf.1;cases cs with
 |nil=>cases hl
 |cons c cs=>
  have hs:zaU (ks.map It.sp) (Tr.its (Tr.node i hk hc ks (c::cs))):=(qsK ks _ (by simpa using hl.symm)).trans (zaM _ _);refine⟨?_,fun k hk=>ho.kl (.sp k) (hs.subset (List.mem_map_of_mem hk))⟩;have:=ho.pw.sublist hs;rw[List.pairwise_map]at this;exact this
structure Pos {d:Nat}(v:qaQ) (ks:List qaQ) (cs:List (Tr d)) (KA KB:List qaQ) (A:List (Tr d)) (c:Tr d) (B:List (Tr d)):Prop where
 ks:ks=KA++KB
 cs:cs=A++c::B
 len:KA.length=A.length
 bd:∀w,Bd (v,(w,())) (pre KA (A.map fun c=>c.its)) (suf KB (B.map fun c=>c.its))
theorem qjX (hN:Nb N) {d:Nat}{i:Int}{hk hc:Hnd}{ks:List qaQ}{cs:List (Tr d)}(hr:Rp p (Tr.node i hk hc ks cs)) (hf:Fil o (Tr.node i hk hc ks cs)) (ho:Ord (Tr.node i hk hc ks cs)) (hl:cs.length≤1000000) (v:qaQ):
  ∃KA KB A c B,Pos v ks cs KA KB A c B∧qbg N p ((i,0),(v,()))=some (p,((A.length:Int),())):=by
 have hn:=hN.lo;have hlk:=hf.1;obtain⟨k1,k2⟩:=qtJ hf ho;obtain⟨A,M,B,c,e⟩:=bsR_ok N hN.hi v k1 (fun x hx=>by have:=k2 x hx;omega) (by omega);have hab:ks.length=A.length+(M.length+B.length):=by rw[c.eq];simp
 have hM:(if M.isEmpty then A.length else A.length+1)=(A++M).length:=by
  rcases c.mid with h|⟨m,h,_⟩<;>subst h<;>simp
 have hi:(A++M).length<cs.length:=by rw[zag];omega
 have hcs:cs=cs.take (A++M).length++cs[(A++M).length]::cs.drop ((A++M).length+1):=by
  rw[←zaB hi,zay]
 have hlen:(A++M).length=(cs.take (A++M).length).length:=by rw[zae];omega
 have hks:ks=(A++M)++B:=by rw[c.eq,zau]
 have hp:(pre (A++M) ((cs.take (A++M).length).map fun c=>c.its)++((cs[(A++M).length]).its++suf B ((cs.drop ((A++M).length+1)).map fun c=>c.its))).Pairwise RI:=by
  have:=ho.pw;rw[Tr.its,hcs,List.map_append,zaC,hks,qeS _ _ (by rw[zaH];exact hlen)]at this;exact this
 rw[zaL,zaL]at hp;refine⟨A++M,B,_,_,_,⟨hks,hcs,hlen,fun w=>⟨quE _ _ hp.1 fun k hk=>?_,quR _ _ hp.2.1.2.1 fun k hk=>?_⟩⟩,?_⟩
 ·show ¬Lt v k;rcases zaf.1 hk with hk|hk
  ·exact(c.lo k hk).asy
  ·rcases c.mid with h|⟨m,h,h2⟩
   ·rw[h]at hk;cases hk
   ·rw[h,zah]at hk;rw[hk,h2];exact Lt.irr
 ·show Lt v k;exact c.hi k hk
 ·obtain⟨a1,a2,a3⟩:=qfe hr.1;simp only[qbg,a1,a2,a3,qvM p hr.2.1,qf,qg,e,zaw,cond_true,qak];rw[←hlen,←hM];cases M.isEmpty
  ·simp only[Bool.not_false,cond_true,Bool.false_eq_true,if_false];rw[qa2 (by have:=hM;simp at hM;omega)]
  ·simp only[Bool.not_true,cond_false,if_true]
theorem Pos.its {d:Nat}{v:qaQ}{ks KA KB:List qaQ}{cs A B:List (Tr d)}{c:Tr d}(h:Pos v ks cs KA KB A c B) (i:Int) (hk hc:Hnd):(Tr.node i hk hc ks cs).its=pre KA (A.map fun c=>c.its)++(c.its++suf KB (B.map fun c=>c.its)):=by
 rw[Tr.its,h.cs,h.ks,List.map_append,zaC,qeS _ _ (by rw[zaH];exact h.len)]
theorem kid {d:Nat}{hc:Hnd}{A B:List (Tr d)}{c:Tr d}(s:Sl p.q4 hc ((A++c::B).map fun c=>c.ptr)):p.g4 hc.1 (qX hc.2.1 (A.length:Int))=c.ptr∧p.s4 hc.1=true∧inB (A.length:Int) (qaS hc.2.2 hc.2.1)=true:=by
 have hi:A.length<((A++c::B).map fun c=>c.ptr).length:=by simp
 refine⟨?_,(s.alive hi).1,?_⟩
 ·show qJ (qy (qN p.q4 hc.1) _) _ _=_;rw[s.get hi];simp
 ·rw[s.len,qbG];exact decide_eq_true (by omega)
end
end Go.Proofs.Ytdiobaoelhdkoaa
namespace Go.Proofs.Ytdiobaoelhdkoaa
open Go.Vi
noncomputable section
variable {p:HpP}{o N:Nat}
theorem Fr.u1 {F:List (Nat×Int)}{v} (h:Up (fun j=>(1,j)∈F) p.q1 v):Fr F p (p.u1 v):=⟨rfl,rfl,rfl,rfl,rfl,h,Up.refl,Up.refl,Up.refl⟩
theorem Fr.u2 {F:List (Nat×Int)}{v} (h:Up (fun j=>(2,j)∈F) p.q2 v):Fr F p (p.u2 v):=⟨rfl,rfl,rfl,rfl,rfl,Up.refl,h,Up.refl,Up.refl⟩
theorem Fr.u3 {F:List (Nat×Int)}{v} (h:Up (fun j=>(3,j)∈F) p.q3 v):Fr F p (p.u3 v):=⟨rfl,rfl,rfl,rfl,rfl,Up.refl,Up.refl,h,Up.refl⟩
theorem Fr.u4 {F:List (Nat×Int)}{v} (h:Up (fun j=>(4,j)∈F) p.q4 v):Fr F p (p.u4 v):=⟨rfl,rfl,rfl,rfl,rfl,Up.refl,Up.refl,Up.refl,h⟩
theorem qda {k:Nat}{h:Hnd}{x:Nat×Int}(hx:x∈cell k h):x=(k,h.1)∧0≤h.1:=by
 unfold cell at hx;split at hx
 ·exact⟨zah.1 hx,by assumption⟩
 ·cases hx
theorem qbT {k:Nat}{h:Hnd}(h0:0≤h.1):cell k h=[(k,h.1)]:=if_pos h0
theorem qux {F N:List (Nat×Int)}(hF:F.Nodup) (hN:N.Nodup) (ho:Old p F) (hf:∀x∈N,lnK p x.1≤x.2):(N++F).Nodup:=zai.2 ⟨hN,hF,fun a ha b hb e=>by
 subst e;have:=ho a hb;have:=hf a ha;omega⟩
structure Spl {d:Nat}(t l:Tr d) (k:qaQ) (r:Tr d):Prop where
 pw:∀X Y,(X++(t.its++Y)).Pairwise RI→(X++(l.its++(.sp k::r.its++Y))).Pairwise RI
 es:t.es=l.es++r.es
 kl:∀x∈l.its++ .sp k::r.its,∃y∈t.its,x.key=y.key
structure SplR (o:Nat) (p:HpP) {d:Nat}(t:Tr d) (q:HpP) (l:Tr d) (k:qaQ) (r:Tr d):Prop where
 spl:Spl t l k r
 rl:Rp q l
 rr:Rp q r
 id:l.id=t.id
 fr:Fr t.fp p q
 sub:Sub p t.fp (l.fp++r.fp)
 nd:(l.fp++r.fp).Nodup
 fl:Fil o l
 frr:Fil o r
 ll:l.fill=t.fill/2
 lr:r.fill=t.fill-t.fill/2
theorem half (f:Nat) (h:f≤1000000):qth .i64 (f:Int) 2=((f/2:Nat):Int):=by
 rw[iquo64 (by omega) (by omega) (by omega)];omega
theorem qrA {i:Int}{h:Hnd}{es:List Ent}(hr:Rp p (Tr.leaf i h es)) (hf:Fil o (Tr.leaf i h es)) (h2:2≤es.length) (hl:es.length≤1000000):
  Ret (fun r=>∃l rt k,SplR o p (Tr.leaf i h es) r.1 l k rt∧r.2.1=rt.ptr∧r.2.2.1=k) (qaO N p ((i,0),())):=by
 delta qaO;dsimp -zeta only;extract_lets c0;have ef:qV N p ((i,0),())=some (p,((es.length:Int),())):=qi4 hr hf;have e0:c0=(p,((es.length:Int),())):=by show qy (qV N p ((i,0),())) _=_;rw[ef,qg]
 clear_value c0;subst e0;refine Ret.G (by rw[ef,qf,qaM];rfl) (Ret.Jv (Ret.J fun y1 g1=>Ret.Rv (Ret.R fun h3 g3=>?_)));dsimp -zeta only;dsimp only at g1;rw[half _ hl]at g1;generalize hm:es.length/2=m at g1;subst g1;have hp1:h3=p.u1 (qdc p.q1 [zP1]):=g3;have f3:Fr [] p h3:=by rw[hp1];exact Fr.u1 Up.add
 have r3:Rp h3 (Tr.leaf i h es):=hr.fr f3 _ (by simp);have n3:qN h3.q1 (qn p.q1)=some [zP1]:=by rw[hp1];exact qc7
 clear g3;extract_lets c1;have e1:c1=(h3,(true,())):=by
  show qy (qr N h3 ((i,0),())) _=_;rw[show qr N h3 ((i,0),())=_ from qcY r3 hf,qg];rfl
 clear_value c1;subst e1;refine Ret.G (by rw[show qr N h3 ((i,0),())=_ from qcY r3 hf,qf]) (Ret.Jv (Ret.Jv (Ret.G rfl (Ret.Rv ?_))));dsimp -zeta only;obtain⟨a1,a2,a3⟩:=qfe r3.1;have a4:leI 0 (qn p.q1)=true:=leT (qP n3).1;have sl:=r3.2.len;extract_lets c2 c3 c4;obtain⟨qa,hr',b1,b2,b3,b4⟩:=qhh (q:=HpP.q2) (u:=HpP.u2) (p:=h3) (b:=32) r3.2 (a:=m) (e:=es.length) (by omega) (zax _) (by omega) (by omega);have e2:c2=(es.length:Int):=by show qaS (h3.g1 i 0).1.2.2 (h3.g1 i 0).1.2.1=_;rw[a1];exact sl
 have e3:c3=some (h3.u2 qa,(hr',())):=by
  show qal N h3 (((h3.g1 i 0).1.1,(qX (h3.g1 i 0).1.2.1 (m:Int),qX (h3.g1 i 0).1.2.1 c2)),())=_;rw[e2,a1,cl2];exact b1
 have e4:c4=(h3.u2 qa,(hr',())):=by show qy c3 _=_;rw[e3,qg]
 clear_value c2 c3 c4;subst e2 e3 e4;have n4:qN (h3.u2 qa).q1 (qn p.q1)=some [zP1]:=n3;obtain⟨d1,d2,_⟩:=qfe n4;refine Ret.G (by rw[a2,a3,a4,d2,qf,qdv];simp;omega) (Ret.R fun h7 g7=>?_);rw[qtf n4,d1]at g7;have i7:qN h7.q1 i=some [(h,(zH,(zH,())))]:=by
  rw[g7];show qN (qdD h3.q1 (qn p.q1) _) i=_;rw[qcu (by rw[qv];omega) (by have:=(qP hr.1).2;omega)];exact r3.1
 have n7:qN h7.q1 (qn p.q1)=some [(hr',(zH,(zH,())))]:=by rw[g7];exact qar n3
 have s7:Sl h7.q2 h es:=by rw[g7];exact r3.2.kp b4.kp (fun _=>id)
 have s7r:Sl h7.q2 hr' (es.drop m):=by rw[g7];rw[List.take_length]at b2;exact b2
 obtain⟨qb,hl',j1,j2,j3,j4⟩:=qhh (q:=HpP.q2) (u:=HpP.u2) (p:=h7) (b:=32) s7 (a:=0) (e:=m) (by omega) (by omega) (by omega) (by omega);obtain⟨k1,k2,k3⟩:=qfe i7;extract_lets c5 c6;have e5:c5=some (h7.u2 qb,(hl',())):=by
  show qal N h7 (((h7.g1 i 0).1.1,(qX (h7.g1 i 0).1.2.1 0,qX (h7.g1 i 0).1.2.1 (m:Int))),())=_;rw[k1,cl2];exact j1
 have e6:c6=(h7.u2 qb,(hl',())):=by show qy c5 _=_;rw[e5,qg]
 clear_value c5 c6;subst e5 e6;have i8:qN (h7.u2 qb).q1 i=some [(h,(zH,(zH,())))]:=i7;obtain⟨l1,l2,_⟩:=qfe i8;refine Ret.G (by rw[k1,k2,k3,l2,qf,s7.len,qdv];simp;omega) (Ret.R fun h8 g8=>?_);rw[qtf i8,l1]at g8;have n8:qN h8.q1 (qn p.q1)=some [(hr',(zH,(zH,())))]:=by
  rw[g8];show qN (qdD h7.q1 i _) (qn p.q1)=_;rw[qcu (qP hr.1).1 (by have:=(qP hr.1).2;omega)];exact n7
 have i9:qN h8.q1 i=some [(hl',(zH,(zH,())))]:=by rw[g8];exact qar i7
 have s8l:Sl h8.q2 hl' (es.take m):=by rw[g8];rw[zaN]at j2;exact j2
 have s8r:Sl h8.q2 hr' (es.drop m):=by rw[g8];exact s7r.kp j4.kp (fun _=>id)
 obtain⟨m1,m2,_⟩:=qfe n8;have hd:0<(es.drop m).length:=by rw[zal];omega
 obtain⟨t1,t2,_⟩:=s8r.alive hd;have tg:h8.g2 hr'.1 (qX hr'.2.1 0)=(es.drop m)[0]:=s8r.get hd _ _;refine Ret.G (by rw[m1,m2,a4,s8r.len,t2,qbG];dsimp only;rw[show h8.s2 hr'.1=true from t1];simp;simp at hd;omega) (Ret.mk ⟨.leaf i hl' (es.take m),.leaf (qn p.q1) hr' (es.drop m),_,?_,rfl,rfl⟩);rw[m1,tg];have hq2:h7.q2=qa:=by rw[g7];rfl
 have lra:qn p.q2≤hr'.1:=by have:=b3;rw[hp1]at this;exact this
 have lrb:hr'.1<qn qa:=by rw[←hq2];exact s7r.lt
 have lla:qn qa≤hl'.1:=by rw[←hq2];exact j3
 have l0:0≤qn p.q2:=by rw[qv];omega
 have its:(Tr.leaf i h es).its=(Tr.leaf i hl' (es.take m)).its++(Tr.leaf (qn p.q1) hr' (es.drop m)).its:=by
  show es.map It.en=(es.take m).map It.en++(es.drop m).map It.en;rw[←List.map_append,zay]
 have hdr:es.drop m=(es.drop m)[0]::(es.drop m).drop 1:=by rw[←zaB hd,zaN]
 have capl:Cap (Tr.leaf i hl' (es.take m)).its:=quv (by rw[zae];omega);refine⟨⟨fun X Y h=>?_,?_,fun x hx=>?_⟩,⟨i9,s8l⟩,⟨n8,s8r⟩,rfl,?_,fun x hx=>?_,?_,trivial,trivial,?_,?_⟩
 ·rw[its,zau]at h;have hR:(Tr.leaf (qn p.q1) hr' (es.drop m)).its=.en (es.drop m)[0]::((es.drop m).drop 1).map .en:=by
   show List.map _ _=_;conv=>lhs;rw[hdr]
   rfl
  exact qrP h capl hR rfl
 ·rw[Tr.es,its,qaR]
 ·rw[its];rcases zaf.1 hx with hx|hx
  ·exact⟨x,zab _ hx,rfl⟩
  ·rcases zak.1 hx with rfl|hx
   ·exact⟨.en (es.drop m)[0],zaa _ (List.mem_map_of_mem (List.getElem_mem hd)),rfl⟩
   ·exact⟨x,zaa _ hx,rfl⟩
 ·subst g8 g7 hp1;have hi:(1,i)∈(Tr.leaf i h es).fp:= .head _;exact⟨rfl,rfl,rfl,rfl,rfl,(Up.add.setn (zaF _)).trans (Up.set (qP hr.1).1 hi),(b4.mono fun _ h=>h.elim).trans (j4.mono fun _ h=>h.elim),Up.refl,Up.refl⟩
 ·rcases zaf.1 hx with hx|hx<;>rcases zak.1 hx with rfl|hx
  ·exact .inl (.head _)
  ·obtain⟨rfl,_⟩:=qda hx;exact .inr (by show qn p.q2≤hl'.1;omega)
  ·exact .inr (zaF _)
  ·obtain⟨rfl,_⟩:=qda hx;exact .inr lra
 ·have:=(qP hr.1).2;have e1:i≠qn p.q1:=by omega
  have e2:hl'.1≠hr'.1:=by omega
  simp[Tr.fp,qbT (show 0≤hl'.1 by omega),qbT (show 0≤hr'.1 by omega),e1,e2]
 ·show(es.take m).length=es.length/2;rw[zae];omega
 ·show(es.drop m).length=es.length-es.length/2;rw[zal];omega
theorem qlL {α:Type}(a v:α):qdz [a] 0 v=[v]:=by rw[qbv];rfl
theorem qlS {α:Type}(a d:α):qJ [a] 0 d=a:=qg6 (i:=0) rfl
theorem qq2 {d:Nat}{i:Int}{hk hc:Hnd}{ks:List qaQ}{cs:List (Tr d)}(ho:1≤o) (hr:Rp p (Tr.node i hk hc ks cs)) (hf:Fil o (Tr.node i hk hc ks cs)) (hnd:(Tr.node i hk hc ks cs).fp.Nodup) (h2:4≤cs.length) (hl:cs.length≤1000000):
  Ret (fun r=>∃l rt k,SplR o p (Tr.node i hk hc ks cs) r.1 l k rt∧r.2.1=rt.ptr∧r.2.2.1=k) (qaO N p ((i,0),())):=by
 have hkl:ks.length+1=cs.length:=hf.1.symm;delta qaO;dsimp -zeta only;extract_lets c0;have ef:qV N p ((i,0),())=some (p,((cs.length:Int),())):=qi4 hr hf;have e0:c0=(p,((cs.length:Int),())):=by show qy (qV N p ((i,0),())) _=_;rw[ef,qg]
 clear_value c0;subst e0;refine Ret.G (by rw[ef,qf,qaM];rfl) (Ret.Jv (Ret.J fun y1 g1=>Ret.Rv (Ret.R fun h3 g3=>?_)));dsimp -zeta only;dsimp only at g1;rw[half _ hl]at g1;generalize hm:cs.length/2=m at g1;subst g1;have hp1:h3=p.u1 (qdc p.q1 [zP1]):=g3;have f3:Fr [] p h3:=by rw[hp1];exact Fr.u1 Up.add
 have r3:Rp h3 (Tr.node i hk hc ks cs):=hr.fr f3 _ (by simp);have n3:qN h3.q1 (qn p.q1)=some [zP1]:=by rw[hp1];exact qc7
 clear g3;extract_lets c1;have e1:c1=(h3,(false,())):=by
  show qy (qr N h3 ((i,0),())) _=_;rw[show qr N h3 ((i,0),())=_ from qcY r3 hf,qg];rfl
 clear_value c1;subst e1;refine Ret.G (by rw[show qr N h3 ((i,0),())=_ from qcY r3 hf,qf]) (Ret.Jv (Ret.Jv (Ret.F rfl (Ret.Rv ?_))));dsimp -zeta only;obtain⟨r31,r32,r33,r34⟩:=r3;obtain⟨a1,a2,a3⟩:=qfe r31;have a4:leI 0 (qn p.q1)=true:=leT (qP n3).1;have lc:=r33.len;rw[zaH]at lc;have lk:=r32.len;have em:qaF .i64 (m:Int) 1=((m-1:Nat):Int):=by rw[qby (by omega) (by omega)];omega
 extract_lets c7 c8 c9 c10 c11 c12 c13 c14 c15 c16;obtain⟨qa,hcr,b1,b2,b3,b4⟩:=qhh (q:=HpP.q4) (u:=HpP.u4) (p:=h3) (b:=8) r33 (a:=m) (e:=cs.length) (by omega) (by rw[zaH];exact zax _) (by omega) (by rw[zaH];omega);obtain⟨qb,hkr,d1,d2,d3,d4⟩:=qhh (q:=HpP.q3) (u:=HpP.u3) (p:=h3.u4 qa) (b:=24) (xs:=ks) r32 (a:=m) (e:=ks.length) (by omega) (zax _) (by omega) (by omega);have e7:c7=(cs.length:Int):=by show qaS (h3.g1 i 0).2.2.1.2.2 (h3.g1 i 0).2.2.1.2.1=_;rw[a1];exact lc
 have e8:c8=some (h3.u4 qa,(hcr,())):=by
  show qaq N h3 (((h3.g1 i 0).2.2.1.1,(qX (h3.g1 i 0).2.2.1.2.1 (m:Int),qX (h3.g1 i 0).2.2.1.2.1 c7)),())=_;rw[e7,a1,cl4];exact b1
 have e9:c9=(h3.u4 qa,(hcr,())):=by show qy c8 _=_;rw[e8,qg]
 have e10:c10=(ks.length:Int):=by show qaS (c9.1.g1 i 0).2.1.2.2 (c9.1.g1 i 0).2.1.2.1=_;rw[e9];show qaS (h3.g1 i 0).2.1.2.2 (h3.g1 i 0).2.1.2.1=_;rw[a1];exact lk
 have e11:c11=some ((h3.u4 qa).u3 qb,(hkr,())):=by
  show qaf N c9.1 (((c9.1.g1 i 0).2.1.1,(qX (c9.1.g1 i 0).2.1.2.1 (m:Int),qX (c9.1.g1 i 0).2.1.2.1 c10)),())=_;rw[e10,e9];show qaf N (h3.u4 qa) (((h3.g1 i 0).2.1.1,(qX (h3.g1 i 0).2.1.2.1 (m:Int),qX (h3.g1 i 0).2.1.2.1 (ks.length:Int))),())=_;rw[a1,cl3];exact d1
 have e12:c12=((h3.u4 qa).u3 qb,(hkr,())):=by show qy c11 _=_;rw[e11,qg]
 obtain⟨n1,n2,_⟩:=qfe n3;have e13:c13=qdD h3.q1 (qn p.q1) [(zH,(zH,(hcr,())))]:=by
  show qdD c12.1.q1 (qn p.q1) (qdz (qy (qN c12.1.q1 (qn p.q1)) _) 0 ((c12.1.g1 (qn p.q1) 0).1,((c12.1.g1 (qn p.q1) 0).2.1,(c9.2.1,(c12.1.g1 (qn p.q1) 0).2.2.2))))=_;rw[e12,e9];show qdD h3.q1 (qn p.q1) (qdz (qy (qN h3.q1 (qn p.q1)) _) 0 ((h3.g1 (qn p.q1) 0).1,((h3.g1 (qn p.q1) 0).2.1,(hcr,(h3.g1 (qn p.q1) 0).2.2.2))))=_;rw[n1,n3,qg,qlL]
 have e14:c14=some [(zH,(zH,(hcr,())))]:=by show qN c13 (qn p.q1)=_;rw[e13];exact qar n3
 have e15:c15=[(zH,(zH,(hcr,())))]:=by show qy c14 _=_;rw[e14,qg]
 have e16:c16=(zH,(zH,(hcr,()))):=by show qJ c15 0 _=_;rw[e15,qlS]
 clear_value c7 c8 c9 c10 c11 c12 c13 c14 c15 c16;subst e7 e8 e9 e10 e11 e12 e13 e14 e15 e16;have n4:(h3.u4 qa).s1 i=true∧((h3.u4 qa).u3 qb).s1 (qn p.q1)=true:=⟨a2,n2⟩;obtain⟨w1,_⟩:=r32.alive (k:=m-1) (by omega);refine Ret.G (by
  rw[a1,a2,a3,em,lk,qbG];dsimp only;rw[show h3.s3 hk.1=true from w1];simp;omega) (Ret.G (by
  dsimp only;rw[a2,a3,a4,n4.1,n4.2,qf,qf,qf,qdv,qdv,show qmF (qN h3.q1 i) (qN (h3.u4 qa).q1 i)=true from qcz _];simp;omega) (Ret.R fun h7 g7=>?_))
 rw[qlL]at g7;have i7:qN h7.q1 i=some [(zH,(hk,(hc,())))]:=by
  rw[g7];show qN (qdD (qdD h3.q1 (qn p.q1) _) (qn p.q1) _) i=_;have h0:i≠qn p.q1:=by have:=(qP hr.1).2;omega
  have h1:0≤qn p.q1:=by rw[qv];omega
  rw[qcu h1 h0,qcu h1 h0];exact r31
 have n7:qN h7.q1 (qn p.q1)=some [(zH,(hkr,(hcr,())))]:=by rw[g7];exact qar (qar n3)
 have s7c:Sl h7.q4 hc (cs.map fun c=>c.ptr):=by rw[g7];exact r33.kp b4.kp (fun _=>id)
 have s7k:Sl h7.q3 hk ks:=by rw[g7];exact r32.kp d4.kp (fun _=>id)
 have s7cr:Sl h7.q4 hcr ((cs.drop m).map fun c=>c.ptr):=by
  rw[g7];rw[zan (by rw[zaH];exact zax _),←List.map_drop]at b2;exact b2
 have s7kr:Sl h7.q3 hkr (ks.drop m):=by rw[g7];rw[List.take_length]at d2;exact d2
 obtain⟨k1,k2,_⟩:=qfe i7;obtain⟨qc,hcl,u1,u2,u3,u4⟩:=qhh (q:=HpP.q4) (u:=HpP.u4) (p:=h7) (b:=8) s7c (a:=0) (e:=m) (by omega) (by rw[zaH];omega) (by omega) (by rw[zaH];omega);obtain⟨qd,hkl',v1,v2,v3,v4⟩:=qhh (q:=HpP.q3) (u:=HpP.u3) (p:=h7.u4 qc) (b:=24) (xs:=ks) s7k (a:=0) (e:=m-1) (by omega) (by omega) (by omega) (by omega);extract_lets c17 c18 c19 c20 c21 c22 c23 c24;have e17:c17=some (h7.u4 qc,(hcl,())):=by
  show qaq N h7 (((h7.g1 i 0).2.2.1.1,(qX (h7.g1 i 0).2.2.1.2.1 0,qX (h7.g1 i 0).2.2.1.2.1 (m:Int))),())=_;rw[k1,cl4];exact u1
 have e18:c18=(h7.u4 qc,(hcl,())):=by show qy c17 _=_;rw[e17,qg]
 have e19:c19=some ((h7.u4 qc).u3 qd,(hkl',())):=by
  show qaf N c18.1 (((c18.1.g1 i 0).2.1.1,(qX (c18.1.g1 i 0).2.1.2.1 0,qX (c18.1.g1 i 0).2.1.2.1 (qaF .i64 (m:Int) 1))),())=_;rw[e18,em];show qaf N (h7.u4 qc) (((h7.g1 i 0).2.1.1,(qX (h7.g1 i 0).2.1.2.1 0,qX (h7.g1 i 0).2.1.2.1 ((m-1:Nat):Int))),())=_;rw[k1,cl3];exact v1
 have e20:c20=((h7.u4 qc).u3 qd,(hkl',())):=by show qy c19 _=_;rw[e19,qg]
 have e21:c21=qdD h7.q1 i [(zH,(hk,(hcl,())))]:=by
  show qdD c20.1.q1 i (qdz (qy (qN c20.1.q1 i) _) 0 ((c20.1.g1 i 0).1,((c20.1.g1 i 0).2.1,(c18.2.1,(c20.1.g1 i 0).2.2.2))))=_;rw[e20,e18];show qdD h7.q1 i (qdz (qy (qN h7.q1 i) _) 0 ((h7.g1 i 0).1,((h7.g1 i 0).2.1,(hcl,(h7.g1 i 0).2.2.2))))=_;rw[k1,i7,qg,qlL]
 have e22:c22=some [(zH,(hk,(hcl,())))]:=by show qN c21 i=_;rw[e21];exact qar i7
 have e23:c23=[(zH,(hk,(hcl,())))]:=by show qy c22 _=_;rw[e22,qg]
 have e24:c24=(zH,(hk,(hcl,()))):=by show qJ c23 0 _=_;rw[e23,qlS]
 clear_value c17 c18 c19 c20 c21 c22 c23 c24;subst e17 e18 e19 e20 e21 e22 e23 e24;have n8:(h7.u4 qc).s1 i=true∧((h7.u4 qc).u3 qd).s1 i=true:=⟨k2,k2⟩;refine Ret.G (by
  rw[k1,k2,a3,n8.1,n8.2,em,qf,qf,qf,qdv,qdv];dsimp only;rw[s7c.len,zaH,show qmF (qN h7.q1 i) (qN (h7.u4 qc).q1 i)=true from qcz _];rw[show qaS ((h7.u4 qc).g1 i 0).2.1.2.2 ((h7.u4 qc).g1 i 0).2.1.2.1=(ks.length:Int)from by show qaS (h7.g1 i 0).2.1.2.2 (h7.g1 i 0).2.1.2.1=_;rw[k1];exact s7k.len];simp;omega) (Ret.R fun h8 g8=>?_)
 rw[qlL]at g8;rw[a1,em];have tk:h3.g3 hk.1 (qX hk.2.1 ((m-1:Nat):Int))=ks[m-1]'(by omega):=r32.get (by omega) _ _;refine Ret.mk ⟨.node i hkl' hcl (ks.take (m-1)) (cs.take m),.node (qn p.q1) hkr hcr (ks.drop m) (cs.drop m),_,?_,rfl,rfl⟩;dsimp only;rw[tk];have hi0:=qP hr.1;have i8:qN h8.q1 i=some [(zH,(hkl',(hcl,())))]:=by rw[g8];exact qar (qar i7)
 have n9:qN h8.q1 (qn p.q1)=some [(zH,(hkr,(hcr,())))]:=by
  rw[g8];show qN (qdD (qdD h7.q1 i _) i _) (qn p.q1)=_;rw[qcu hi0.1 (by omega),qcu hi0.1 (by omega)];exact n7
 have sll:Sl h8.q4 hcl ((cs.take m).map fun c=>c.ptr):=by rw[g8];rw[zaN,←List.map_take]at u2;exact u2
 have slk:Sl h8.q3 hkl' (ks.take (m-1)):=by rw[g8];rw[zaN]at v2;exact v2
 have srl:Sl h8.q4 hcr ((cs.drop m).map fun c=>c.ptr):=by rw[g8];exact s7cr.kp u4.kp (fun _=>id)
 have srk:Sl h8.q3 hkr (ks.drop m):=by rw[g8];exact s7kr.kp v4.kp (fun _=>id)
 have bkr:qn p.q3≤hkr.1:=by have:=d3;rw[hp1]at this;exact this
 have bcr:qn p.q4≤hcr.1:=by have:=b3;rw[hp1]at this;exact this
 have bkl:hkr.1<hkl'.1:=Int.lt_of_lt_of_le s7kr.lt v3;have bcl:hcr.1<hcl.1:=Int.lt_of_lt_of_le s7cr.lt u3;have z3:0≤qn p.q3:=by rw[qv];omega
 have z4:0≤qn p.q4:=by rw[qv];omega
 have f8:Fr [(1,i)] p h8:=by
  have hin:(1,i)∈[((1:Nat),i)]:= .head _;subst g8 g7 hp1;exact⟨rfl,rfl,rfl,rfl,rfl,(((Up.add.setn (zaF _)).setn (zaF _)).trans (Up.set hi0.1 hin)).trans (Up.set hi0.1 hin),Up.refl,(d4.mono fun _ h=>h.elim).trans (v4.mono fun _ h=>h.elim),(b4.mono fun _ h=>h.elim).trans (u4.mono fun _ h=>h.elim)⟩
 have hfl:cs.flatMap (fun c=>c.fp)=(cs.take m).flatMap (fun c=>c.fp)++(cs.drop m).flatMap (fun c=>c.fp):=by rw[←List.flatMap_append,zay]
 have hkid:∀c∈cs,Rp h8 c:=fun c hc=>(hr.2.2.2 c hc).fr f8 _ fun x hx hm=>by
  rw[zah.1 hm]at hx;have:=(zaJ.1 hnd).1;exact this (zaa _ (zaa _ (List.mem_flatMap.2 ⟨c,hc,hx⟩)))
 have its:(Tr.node i hk hc ks cs).its=(Tr.node i hkl' hcl (ks.take (m-1)) (cs.take m)).its++ .sp (ks[m-1]'(by omega))::(Tr.node (qn p.q1) hkr hcr (ks.drop m) (cs.drop m)).its:=by
  show qfm ks (cs.map _)=qfm (ks.take (m-1)) ((cs.take m).map _)++It.sp _::qfm (ks.drop m) ((cs.drop m).map _);rw[←qoj (by simp;omega) (by simp;omega),←List.map_append,zay];congr 1;have:ks.drop (m-1)=ks[m-1]'(by omega)::ks.drop m:=by rw[zaB (by omega)];congr 2;omega
  rw[←this,zay]
 have fresh:∀x∈[(1,qn p.q1),(3,hkr.1),(4,hcr.1),(3,hkl'.1),(4,hcl.1)],lnK p x.1≤x.2:=by
  intro x hx;simp only[zak,List.not_mem_nil,or_false]at hx;rcases hx with rfl|rfl|rfl|rfl|rfl<;>simp only[lnK]<;>omega
 have efp:(Tr.node i hkl' hcl (ks.take (m-1)) (cs.take m)).fp++(Tr.node (qn p.q1) hkr hcr (ks.drop m) (cs.drop m)).fp=((1,i)::([(3,hkl'.1)]++([(4,hcl.1)]++(cs.take m).flatMap fun c=>c.fp)))++((1,qn p.q1)::([(3,hkr.1)]++([(4,hcr.1)]++(cs.drop m).flatMap fun c=>c.fp))):=by
  rw[←qbT (k:=3) (h:=hkl') (by omega),←qbT (k:=4) (h:=hcl) (by omega),←qbT (k:=3) (h:=hkr) (by omega),←qbT (k:=4) (h:=hcr) (by omega)];rfl
 refine⟨⟨fun X Y h=>?_,?_,fun x hx=>⟨x,by rw[its];exact hx,rfl⟩⟩,⟨i8,slk,sll,fun c hc=>hkid c (List.mem_of_mem_take hc)⟩,⟨n9,srk,srl,fun c hc=>hkid c (List.mem_of_mem_drop hc)⟩,rfl,f8.sub fun x hx=>?_,fun x hx=>?_,?_,⟨?_,fun c hc=>hf.2 c (List.mem_of_mem_take hc)⟩,⟨?_,fun c hc=>hf.2 c (List.mem_of_mem_drop hc)⟩,?_,?_⟩
 ·rw[its]at h;simpa using h
 ·rw[Tr.es,its,qaR];rfl
 ·rw[zah.1 hx];exact .inl (.head _)
 ·rw[efp]at hx;show x∈(1,i)::(cell 3 hk++(cell 4 hc++cs.flatMap fun c=>c.fp))∨_;rw[hfl];by_cases hN:x∈[(1,qn p.q1),(3,hkr.1),(4,hcr.1),(3,hkl'.1),(4,hcl.1)]
  ·exact .inr (fresh x hN)
  ·left;simp only[zaf,zak,List.not_mem_nil,or_false]at hx hN⊢
   grind
 ·rw[efp];have hF:((1,i)::((cs.take m).flatMap (fun c=>c.fp)++(cs.drop m).flatMap (fun c=>c.fp))).Nodup:=by
   rw[←hfl];refine hnd.sublist (zaU.cons_cons _ ?_);exact(zaM _ _).trans (zaM _ _)
  have hO:Old p ((1,i)::((cs.take m).flatMap (fun c=>c.fp)++(cs.drop m).flatMap (fun c=>c.fp))):=fun x hx=>by
   rw[←hfl]at hx;refine Rp.old _ hr x ?_;rcases zak.1 hx with rfl|hx
   ·exact .head _
   ·exact .tail _ (zaa _ (zaa _ hx))
  have hN:[(1,qn p.q1),(3,hkr.1),(4,hcr.1),(3,hkl'.1),(4,hcl.1)].Nodup:=by
   have e1:hkr.1≠hkl'.1:=by omega
   have e2:hcr.1≠hcl.1:=by omega
   simp[e1,e2]
  have:=qux hF hN hO fresh;rw[List.nodup_iff_count]at this⊢
  intro a;have:=this a;simp only[List.count_append,List.count_cons,List.count_nil]at this⊢
  omega
 ·rw[zae,zae];omega
 ·rw[zal,zal];omega
 ·show(cs.take m).length=cs.length/2;rw[zae];omega
 ·show(cs.drop m).length=cs.length-cs.length/2;rw[zal];omega
end
end Go.Proofs.Ytdiobaoelhdkoaa
namespace Go.Proofs.Ytdiobaoelhdkoaa
open Go.Vi
noncomputable section
variable {p q q2:HpP}{o N:Nat}
theorem qp4 {d:Nat}{t:Tr d}(ho:1≤o) (hr:Rp p t) (hf:Fil o t) (hnd:t.fp.Nodup) (h2:4≤t.fill) (hl:t.fill≤1000000):
  Ret (fun r=>∃l rt k,SplR o p t r.1 l k rt∧r.2.1=rt.ptr∧r.2.2.1=k) (qaO N p (t.ptr,())):=
 match d,t,hr,hf,hnd,h2,hl with
 |0,.leaf _ _ _,hr,hf,_,h2,hl=>qrA hr hf (Nat.le_trans (by omega) h2) hl
 |_+1,.node _ _ _ _ _,hr,hf,hnd,h2,hl=>qq2 ho hr hf hnd h2 hl
structure Mov (p:HpP) {d:Nat}(t:Tr d) (q:HpP) (t':Tr d):Prop where
 rp:Rp q t'
 id:t'.id=t.id
 fr:Fr t.fp p q
 sub:Sub p t.fp t'.fp
 nd:t'.fp.Nodup
theorem Mov.refl {d:Nat}{t:Tr d}(hr:Rp p t) (hn:t.fp.Nodup):Mov p t p t:=⟨hr,rfl,Fr.refl,Sub.refl,hn⟩
theorem Mov.trans {d:Nat}{t t' t2:Tr d}(h1:Mov p t q t') (h2:Mov q t' q2 t2):Mov p t q2 t2:=⟨h2.rp,h2.id.trans h1.id,h1.fr.trans h1.sub h2.fr,h1.sub.trans h1.fr h2.sub,h2.nd⟩
def fps {d:Nat}(M:List (Tr d)):List (Nat×Int):=M.flatMap fun c=>c.fp
theorem qdL {d:Nat}(A B:List (Tr d)):fps (A++B)=fps A++fps B:=List.flatMap_append
structure MovS (p:HpP) {d:Nat}(M:List (Tr d)) (q:HpP) (M':List (Tr d)):Prop where
 rp:∀m∈M',Rp q m
 fr:Fr (fps M) p q
 sub:Sub p (fps M) (fps M')
 nd:(fps M').Nodup
theorem qd5 {d:Nat}(c:Tr d):fps [c]=c.fp:=zaO _
theorem qgW {d:Nat}(c e:Tr d):fps [c,e]=c.fp++e.fp:=by show c.fp++(e.fp++[])=_;rw[zaO]
theorem Mov.one {d:Nat}{c c':Tr d}(h:Mov p c q c'):MovS p [c] q [c']:=⟨fun m hm=>by rw[zah.1 hm];exact h.rp,by rw[qd5];exact h.fr,by rw[qd5,qd5];exact h.sub,by rw[qd5];exact h.nd⟩
theorem SplR.two {d:Nat}{c l r:Tr d}{k:qaQ}(h:SplR o p c q l k r):MovS p [c] q [l,r]:=⟨fun m hm=>by
  rcases zak.1 hm with rfl|hm
  ·exact h.rl
  ·rw[zah.1 hm];exact h.rr,by rw[qd5];exact h.fr,by rw[qd5,qgW];exact h.sub,by rw[qgW];exact h.nd⟩
theorem qr0 {X L L' Y:List (Nat×Int)}(h:(X++(L++Y)).Nodup) (h':L'.Nodup) (hs:Sub p L L') (hx:Old p X) (hy:Old p Y):(X++(L'++Y)).Nodup:=by
 rw[zai,zai]at h⊢
 obtain⟨h1,⟨h2,h3,h4⟩,h5⟩:=h;refine⟨h1,⟨h',h3,fun a ha b hb e=>?_⟩,fun a ha b hb e=>?_⟩
 ·subst e;rcases hs a ha with g|g
  ·exact h4 a g a hb rfl
  ·have:=hy a hb;omega
 ·subst e;rcases zaf.1 hb with hb|hb
  ·rcases hs a hb with g|g
   ·exact h5 a ha a (zab _ g) rfl
   ·have:=hx a ha;omega
  ·exact h5 a ha a (zaa _ hb) rfl
abbrev cel (i:Int) (hk hc:Hnd):List (Nat×Int):=(1,i)::(cell 3 hk++cell 4 hc)
theorem Old.mono {F:List (Nat×Int)}(h:Old p F) {F':List (Nat×Int)}(f:Fr F' p q):Old q F:=fun x hx=>Int.lt_of_lt_of_le (h x hx) (f.ln _)
theorem reb {d:Nat}{i:Int}{hk hc hk' hc':Hnd}{ks ks':List qaQ}{A M M' B:List (Tr d)}(hr:Rp p (Tr.node i hk hc ks (A++(M++B)))) (hnd:(Tr.node i hk hc ks (A++(M++B))).fp.Nodup) (ms:MovS p M q M') (f:Fr (cel i hk hc) q q2)
  (row:qN q2.q1 i=some [(zH,(hk',(hc',())))]) (s3:Sl q2.q3 hk' ks') (s4:Sl q2.q4 hc' ((A++(M'++B)).map fun c=>c.ptr)) (h3:hk'.1=hk.1∨qn q.q3≤hk'.1) (h4:hc'.1=hc.1∨qn q.q4≤hc'.1):
  Mov p (Tr.node i hk hc ks (A++(M++B))) q2 (Tr.node i hk' hc' ks' (A++(M'++B))):=by
 have hO:=Rp.old _ hr;have efp:(Tr.node i hk hc ks (A++(M++B))).fp=cel i hk hc++(fps A++(fps M++fps B)):=by
  show(1,i)::(cell 3 hk++(cell 4 hc++fps (A++(M++B))))=_;rw[qdL,qdL];simp
 have efp':(Tr.node i hk' hc' ks' (A++(M'++B))).fp=cel i hk' hc'++(fps A++(fps M'++fps B)):=by
  show(1,i)::(cell 3 hk'++(cell 4 hc'++fps (A++(M'++B))))=_;rw[qdL,qdL];simp
 rw[efp]at hO hnd;have hnd':=hnd;rw[zai]at hnd;obtain⟨n1,n2,n3⟩:=hnd;have oC:Old p (cel i hk hc):=fun x hx=>hO x (zab _ hx);have oA:Old p (fps A):=fun x hx=>hO x (zaa _ (zab _ hx));have oB:Old p (fps B):=fun x hx=>hO x (zaa _ (zaa _ (zaa _ hx)));have nF:=qr0 n2 ms.nd ms.sub oA oB;have dC:∀x∈fps M',x∉cel i hk hc:=fun x hx hc=>by
  rcases ms.sub x hx with g|g
  ·exact n3 x hc x (zaa _ (zab _ g)) rfl
  ·have:=oC x hc;omega
 have keep:∀c∈A++B,Rp q2 c:=fun c hc=>by
  have hx:∀x∈c.fp,x∈fps A∨x∈fps B:=fun x hx=>by
   rcases zaf.1 hc with hc|hc
   ·exact .inl (List.mem_flatMap.2 ⟨c,hc,hx⟩)
   ·exact .inr (List.mem_flatMap.2 ⟨c,hc,hx⟩)
  have h0:Rp p c:=hr.2.2.2 c (by
   rcases zaf.1 hc with hc|hc
   ·exact zab _ hc
   ·exact zaa _ (zaa _ hc))
  refine((h0.fr ms.fr _ fun x hx1 hx2=>?_).fr f _ fun x hx1 hx2=>?_)
  ·rw[zai,zai]at n2;rcases hx x hx1 with g|g
   ·exact n2.2.2 x g x (zab _ hx2) rfl
   ·exact n2.2.1.2.2 x hx2 x g rfl
  ·refine n3 x hx2 x ?_ rfl;rcases hx x hx1 with g|g
   ·exact zab _ g
   ·exact zaa _ (zaa _ g)
 have hsub:∀x∈cel i hk' hc',x∈cel i hk hc∨lnK q x.1≤x.2:=fun x hx=>by
  rcases zak.1 hx with rfl|hx
  ·exact .inl (.head _)
  ·rcases zaf.1 hx with hx|hx
   ·obtain⟨rfl,h0⟩:=qda hx;rcases h3 with h3|h3
    ·rw[h3]at h0⊢
     exact .inl (.tail _ (zab _ (by rw[qbT h0];exact .head _)))
    ·exact .inr h3
   ·obtain⟨rfl,h0⟩:=qda hx;rcases h4 with h4|h4
    ·rw[h4]at h0⊢
     exact .inl (.tail _ (zaa _ (by rw[qbT h0];exact .head _)))
    ·exact .inr h4
 have nC:(cel i hk' hc').Nodup:=by
  unfold cel cell;split<;>split<;>simp
 refine⟨⟨row,s3,s4,fun c hc=>?_⟩,rfl,?_,fun x hx=>?_,?_⟩
 ·rcases zaf.1 hc with hc|hc
  ·exact keep c (zab _ hc)
  ·rcases zaf.1 hc with hc|hc
   ·exact(ms.rp c hc).fr f _ fun x hx=>dC x (List.mem_flatMap.2 ⟨c,hc,hx⟩)
   ·exact keep c (zaa _ hc)
 ·rw[efp];exact(ms.fr.sub fun x hx=>.inl (zaa _ (zaa _ (zab _ hx)))).trans1 (f.sub fun x hx=>.inl (zab _ hx))
 ·rw[efp']at hx;rw[efp];rcases zaf.1 hx with hx|hx
  ·rcases hsub x hx with g|g
   ·exact .inl (zab _ g)
   ·exact .inr (Int.le_trans (ms.fr.ln _) g)
  ·rcases zaf.1 hx with hx|hx
   ·exact .inl (zaa _ (zab _ hx))
   ·rcases zaf.1 hx with hx|hx
    ·rcases ms.sub x hx with g|g
     ·exact .inl (zaa _ (zaa _ (zab _ g)))
     ·exact .inr g
    ·exact .inl (zaa _ (zaa _ (zaa _ hx)))
 ·rw[efp',zai];refine⟨nC,nF,fun x hx y hy e=>?_⟩;subst e;have hyo:Old q (fps A++(fps M'++fps B)):=fun z hz=>by
   rcases zaf.1 hz with hz|hz
   ·exact oA.mono ms.fr z hz
   ·rcases zaf.1 hz with hz|hz
    ·obtain⟨c,hc,hz⟩:=List.mem_flatMap.1 hz;exact Rp.old _ (ms.rp c hc) z hz
    ·exact oB.mono ms.fr z hz
  rcases hsub x hx with g|g
  ·rcases zaf.1 hy with hy|hy
   ·exact n3 x g x (zab _ hy) rfl
   ·rcases zaf.1 hy with hy|hy
    ·exact dC x hy g
    ·exact n3 x g x (zaa _ (zaa _ hy)) rfl
  ·have:=hyo x hy;omega
theorem ins1 {α:Type}{q:List (Option (List α))}{h:Hnd}{xs:List α}{bytes:Nat}(s:Sl q h xs) (v:α) {k:Nat}(hk:k≤xs.length) (hb:(xs.length+1)*bytes≤140737488355328):
  ∃q' h',qkm bytes (qdc q [v]) h (k:Int) (qn q,(0,qn [v]))=some (q',h')∧Sl q' h' (xs.take k++v::xs.drop k)∧qn q≤h'.1∧Up (fun j=>j=h.1) q q':=by
 have hn:h.1≠qn q:=by have:=s.lt;omega
 obtain⟨q',h1,h2,h3,h4⟩:=Sl.ins (bytes:=bytes) (s.add (r':=[v])) (Sl.new (q:=q) (xs:=[v])) hk (by simp) hn hb;refine⟨q',_,h1,by simpa using h2,by rw[qfx];show qn q≤qn q+1;omega,fun j hj r hr=>?_,by rw[h3,qfx];omega⟩;have:=(qP hr).2;rw[h4 j hj (by rw[qfx];omega)];exact qeh hr
end
end Go.Proofs.Ytdiobaoelhdkoaa
namespace Go.Proofs.Ytdiobaoelhdkoaa
open Go.Vi
noncomputable section
variable {p q q2:HpP}{o N:Nat}
theorem qeV {α:Type}{q q':List (Option (List α))}{h:Hnd}{k:Nat}{F:List (Nat×Int)}(u:Up (fun j=>j=h.1) q q') (hF:∀x∈cell k h,x∈F):Up (fun j=>(k,j)∈F) q q':=⟨fun j hj r hr=>u.kp j (fun e=>hj (hF _ (by
 have:=(qP hr).1;subst e;rw[qbT this];exact .head _))) r hr,u.ln⟩
theorem cel3 {i:Int}{hk hc:Hnd}:∀x∈cell 3 hk,x∈cel i hk hc:=fun _ hx=>.tail _ (zab _ hx)
theorem cel4 {i:Int}{hk hc:Hnd}:∀x∈cell 4 hc,x∈cel i hk hc:=fun _ hx=>.tail _ (zaa _ hx)
structure Odr (N o:Nat):Prop where
 n:Nb N
 lo:3≤o
 hi:o≤16
abbrev Okc (o:Nat) {d:Nat}(c:Tr d):Prop:=(o+1)/2≤c.fill∧c.fill≤o∧Fil o c
def Box (p:HpP) (b:Int) (o:Nat):Prop:=∃x,qN p.q0 b=some [((o:Int),x)]
theorem Box.get {b:Int}(h:Box p b o):leI 0 b=true∧p.s0 b=true∧(p.g0 b 0).1=(o:Int):=by
 obtain⟨x,h⟩:=h;refine⟨leT (qP h).1,?_,?_⟩
 ·show qp (qN p.q0 b)=_;rw[h,qf]
 ·show(qJ (qy (qN p.q0 b) _) 0 _).1=_;rw[h,qg,qlS]
theorem qmP {d:Nat}{i:Int}{hk hc:Hnd}{ks:List qaQ}{A M B:List (Tr d)}(hr:Rp p (Tr.node i hk hc ks (A++(M++B)))) (hnd:(Tr.node i hk hc ks (A++(M++B))).fp.Nodup) (f:Fr (fps M) p q):
  qN q.q1 i=some [(zH,(hk,(hc,())))]∧Sl q.q3 hk ks∧Sl q.q4 hc ((A++(M++B)).map fun c=>c.ptr):=by
 have efp:(Tr.node i hk hc ks (A++(M++B))).fp=cel i hk hc++(fps A++(fps M++fps B)):=by
  show(1,i)::(cell 3 hk++(cell 4 hc++fps (A++(M++B))))=_;rw[qdL,qdL];simp
 rw[efp,zai]at hnd;have dC:∀x∈cel i hk hc,x∉fps M:=fun x hx hm=>hnd.2.2 x hx x (zaa _ (zab _ hm)) rfl;exact⟨f.k1.kp _ (dC _ (.head _)) _ hr.1,qno hr.2.1 f.k3 fun x hx=>dC x (cel3 x hx),qno hr.2.2.1 f.k4 fun x hx=>dC x (cel4 x hx)⟩
theorem qig (ho:Odr N o) {b:Int}(hb:Box p b o) {d:Nat}{i:Int}{hk hc:Hnd}{KA KB:List qaQ}{A B:List (Tr d)}{c:Tr d}(hr:Rp p (Tr.node i hk hc (KA++KB) (A++([c]++B)))) (hnd:(Tr.node i hk hc (KA++KB) (A++([c]++B))).fp.Nodup) (hord:Ord (Tr.node i hk hc (KA++KB) (A++([c]++B))))
  (la:KA.length=A.length) (lb:KB.length=B.length) (hab:∀a∈A++B,Okc o a) (cf:Fil o c) (c1:(o+1)/2≤c.fill) (c2:c.fill≤2*o) (hs:A.length+B.length≤1000):
  Ret (fun r=>∃t':Tr (d+1),Mov p (Tr.node i hk hc (KA++KB) (A++([c]++B))) r.1 t'∧Fil o t'∧Ord t'∧t'.es=(Tr.node i hk hc (KA++KB) (A++([c]++B))).es∧A.length+B.length+1≤t'.fill∧t'.fill≤A.length+B.length+2) (qa8 N p ((b,0),((i,0),((A.length:Int),())))):=by
 have h3:=ho.lo;have h16:=ho.hi;obtain⟨b1,b2,b3⟩:=hb.get;obtain⟨a1,a2,a3⟩:=qfe hr.1;obtain⟨k1,k2,k3⟩:=kid hr.2.2.1;have rc:Rp p c:=hr.2.2.2 c (zaa _ (.head _));delta qa8;dsimp -zeta only;extract_lets c0 c1';have e0:c0=some (p,((c.fill:Int),())):=by
  show qV N p (p.g4 (p.g1 i 0).2.2.1.1 (qX (p.g1 i 0).2.2.1.2.1 (A.length:Int)),())=_;rw[a1];dsimp only;rw[k1,qi4 rc cf]
 have e1:c1'=(p,((c.fill:Int),())):=by show qy c0 _=_;rw[e0,qg]
 clear_value c0 c1';subst e0 e1;refine Ret.G (by rw[a1,a2,a3,b1];dsimp only;rw[k2,k3,b2,qf,qcz];rfl) (Ret.B (fun hle=>Ret.mk ?_) fun hle=>Ret.Rv ?_)
 ·rw[b3,qdX]at hle;have hle:(c.fill:Int)≤(o:Int):=of_decide_eq_true hle;refine⟨_,Mov.refl hr hnd,⟨by simp[la,lb];omega,fun a ha=>?_⟩,hord,rfl,by show _≤(A++([c]++B)).length;simp;omega,by show(A++([c]++B)).length≤_;simp;omega⟩;rcases zaf.1 ha with ha|ha
  ·exact hab a (zab _ ha)
  ·rcases zak.1 ha with rfl|ha
   ·exact⟨c1,by omega,cf⟩
   ·exact hab a (zaa _ ha)
 ·rw[b3,qdX]at hle;have hle:¬(c.fill:Int)≤(o:Int):=of_decide_eq_false hle;dsimp -zeta only;have ncf:c.fp.Nodup:=by
   refine hnd.sublist ?_;have:c.fp=fps [c]:=(qd5 c).symm;rw[this];refine zaU.trans ?_ (List.sublist_cons_self _ _);show zaU _ (cell 3 hk++(cell 4 hc++fps (A++([c]++B))));rw[qdL,qdL];exact(List.sublist_append_left _ _).trans ((zaM _ _).trans ((zaM _ _).trans (zaM _ _)))
  obtain⟨⟨p1,r2,k,⟨⟩⟩,hs1,l,rt,k0,hs2,hs3,hs4⟩:=qp4 (N:=N) (by omega) rc cf ncf (by omega) (by omega);dsimp only at hs2 hs3 hs4;subst hs3 hs4;extract_lets c2' c3';have e2:c2'=some (p1,(rt.ptr,(k,()))):=by
   show qaO N p (p.g4 (p.g1 i 0).2.2.1.1 (qX (p.g1 i 0).2.2.1.2.1 (A.length:Int)),())=_;rw[a1];dsimp only;rw[k1];exact hs1
  have e3:c3'=(p1,(rt.ptr,(k,()))):=by show qy c2' _=_;rw[e2,qg]
  clear_value c2' c3';subst e2 e3;refine Ret.G (by rw[a1,a2,a3];dsimp only;rw[k2,k3,qf];rfl) (Ret.Jv (Ret.Jv (Ret.Rv ?_)));dsimp -zeta only;have ms:=hs2.two;obtain⟨d1,d3,d4⟩:=qmP hr hnd ms.fr;obtain⟨f1,f2,_⟩:=qfe d1;obtain⟨q4',hc',g1,g2,g3,g4⟩:=ins1 (bytes:=8) d4 rt.ptr (k:=A.length+1) (by simp) (by simp;omega);extract_lets c4 c5;have ei:qaj .i64 (A.length:Int) 1=((A.length+1:Nat):Int):=qa2 (by omega);have e4:c4=some (p1.u4 q4',(hc',())):=by
   show qbM N (p1.a4 [rt.ptr]) ((p1.g1 i 0).2.2.1,(qaj .i64 (A.length:Int) 1,((qn p1.q4,(0,qn [rt.ptr])),())))=_;rw[f1,ei];show(qkm 8 (qdc p1.q4 [rt.ptr]) hc ((A.length+1:Nat):Int) (qn p1.q4,(0,qn [rt.ptr]))).map _=_;rw[g1];rfl
  have e5:c5=(p1.u4 q4',(hc',())):=by show qy c4 _=_;rw[e4,qg]
  clear_value c4 c5;subst e4 e5;have d1':qN (p1.u4 q4').q1 i=some [(zH,(hk,(hc,())))]:=d1;obtain⟨f1',f2',_⟩:=qfe d1';refine Ret.G (by rw[f2,a3,qf,f2'];rfl) (Ret.R fun h4 e4=>?_);rw[qtf d1',f1']at e4;have r4:qN h4.q1 i=some [(zH,(hk,(hc',())))]:=by rw[e4];exact qar d1
  have s43:Sl h4.q3 hk (KA++KB):=by rw[e4];exact d3
  obtain⟨f3,f4,_⟩:=qfe r4;obtain⟨q3',hk',m1,m2,m3,m4⟩:=ins1 (bytes:=24) s43 k (k:=A.length) (by simp;omega) (by simp;omega);extract_lets c6 c7;have e6:c6=some (h4.u3 q3',(hk',())):=by
   show qcd N (h4.a3 [k]) ((h4.g1 i 0).2.1,((A.length:Int),((qn h4.q3,(0,qn [k])),())))=_;rw[f3];show(qkm 24 (qdc h4.q3 [k]) hk (A.length:Int) (qn h4.q3,(0,qn [k]))).map _=_;rw[m1];rfl
  have e7:c7=(h4.u3 q3',(hk',())):=by show qy c6 _=_;rw[e6,qg]
  clear_value c6 c7;subst e6 e7;have r4':qN (h4.u3 q3').q1 i=some [(zH,(hk,(hc',())))]:=r4;obtain⟨f3',f4',_⟩:=qfe r4';refine Ret.G (by rw[f4,a3,qf,f4'];rfl) (Ret.mk ?_);dsimp only;rw[qtf r4',f3'];have hi0:=(qP hr.1).1;have hin:((1:Nat),i)∈cel i hk hc:= .head _;have f:Fr (cel i hk hc) p1 ((h4.u3 q3').u1 (qdD (h4.u3 q3').q1 i [(zH,(hk',(hc',())))])):=by
   subst e4;exact⟨rfl,rfl,rfl,rfl,rfl,(Up.set hi0 hin).trans (Up.set hi0 hin),Up.refl,qeV m4 cel3,qeV g4 cel4⟩
  have mv:=reb (ks':=KA++k::KB) hr hnd ms f (qar r4) (by
   rw[←la,List.take_left,List.drop_left]at m2;exact m2) (by
   subst e4;have e:((A++([c]++B)).map fun c=>c.ptr).take (A.length+1)++rt.ptr::((A++([c]++B)).map fun c=>c.ptr).drop (A.length+1)=(A++([l,rt]++B)).map fun c=>c.ptr:=by
    have hp:c.ptr=l.ptr:=by show(c.id,(0:Int))=(l.id,0);rw[hs2.id]
    have e1:A++([c]++B)=(A++[c])++B:=by simp
    have e2:A.length+1=((A++[c]).map fun c=>c.ptr).length:=by simp
    rw[e1,List.map_append,e2,List.take_left,List.drop_left];simp[hp]
   rw[e]at g2;exact g2) (.inr (by rw[e4]at m3;exact m3)) (.inr g3)
  have i1:(Tr.node i hk hc (KA++KB) (A++([c]++B))).its=pre KA (A.map fun c=>c.its)++(c.its++suf KB (B.map fun c=>c.its)):=by
   show qfm (KA++KB) ((A++c::B).map fun c=>c.its)=_;rw[List.map_append,zaC,qeS _ _ (by rw[zaH];exact la)]
  have i2:(Tr.node i hk' hc' (KA++k::KB) (A++([l,rt]++B))).its=pre KA (A.map fun c=>c.its)++(l.its++(.sp k::rt.its++suf KB (B.map fun c=>c.its))):=by
   show qfm (KA++k::KB) ((A++l::rt::B).map fun c=>c.its)=_;rw[List.map_append,zaC,qeS _ _ (by rw[zaH];exact la)];rfl
  refine⟨_,mv,⟨by simp[la,lb];omega,fun a ha=>?_⟩,⟨?_,fun x hx=>?_⟩,?_,by show _≤(A++([l,rt]++B)).length;simp;omega,by show(A++([l,rt]++B)).length≤_;simp;omega⟩
  ·have ll:=hs2.ll;have lr:=hs2.lr;rcases zaf.1 ha with ha|ha
   ·exact hab a (zab _ ha)
   ·rcases zak.1 ha with rfl|ha
    ·exact⟨by omega,by omega,hs2.fl⟩
    ·rcases zak.1 ha with rfl|ha
     ·exact⟨by omega,by omega,hs2.frr⟩
     ·exact hab a (zaa _ ha)
  ·rw[i2];exact hs2.spl.pw _ _ (by rw[←i1];exact hord.pw)
  ·rw[i2]at hx;have hy:∃y∈(Tr.node i hk hc (KA++KB) (A++([c]++B))).its,x.key=y.key:=by
    rw[i1];rw[←zau (l.its)]at hx;rcases zaf.1 hx with hx|hx
    ·exact⟨x,zab _ hx,rfl⟩
    ·rcases zaf.1 hx with hx|hx
     ·obtain⟨y,hy,e⟩:=hs2.spl.kl x hx;exact⟨y,zaa _ (zab _ hy),e⟩
     ·exact⟨x,zaa _ (zaa _ hx),rfl⟩
   obtain⟨y,hy,e⟩:=hy;rw[e];exact hord.kl y hy
  ·have:=hs2.spl.es;rw[Tr.es,Tr.es,Tr.es]at this;rw[Tr.es,Tr.es,i1,i2,qaR _ (c.its++_),qaR c.its,this,qaR,qaR,qaR,zau];rfl
end
end Go.Proofs.Ytdiobaoelhdkoaa
namespace Go.Proofs.Ytdiobaoelhdkoaa
open Go.Vi
noncomputable section
variable {p q q2:HpP}{o N:Nat}
theorem Box.fr {b:Int}{F:List (Nat×Int)}(h:Box p b o) (f:Fr F p q):Box q b o:=by
 obtain⟨x,h⟩:=h;exact⟨x,by rw[f.q0];exact h⟩
theorem qcZ {d:Nat}{i:Int}{hk hc:Hnd}{KA KB:List qaQ}{A B:List (Tr d)}{c:Tr d}(la:KA.length=A.length):(Tr.node i hk hc (KA++KB) (A++([c]++B))).its=pre KA (A.map fun c=>c.its)++(c.its++suf KB (B.map fun c=>c.its)):=by
 show qfm (KA++KB) ((A++c::B).map fun c=>c.its)=_;rw[List.map_append,zaC,qeS _ _ (by rw[zaH];exact la)]
def qgt (v:qaQ) (es:List Ent):Bool:=(qj v es).isSome
theorem qp1 {v:qaQ}{w:Int}{es:List Ent}{e:Ent}(h:e∈qhu v w es):e=(v,(w,()))∨e∈es:=by
 unfold qhu loE hiE at h;rcases zaf.1 h with h|h
 ·exact .inr (List.mem_filter.1 h).1
 ·rcases zak.1 h with h|h
  ·exact .inl h
  ·exact .inr (List.mem_filter.1 h).1
theorem qp3 {v:qaQ}{es:List Ent}{e:Ent}(h:e∈qiO v es):e∈es:=by
 unfold qiO loE hiE at h;rcases zaf.1 h with h|h
 ·exact(List.mem_filter.1 h).1
 ·exact(List.mem_filter.1 h).1
theorem qnn {v:qaQ}{w:Int}{es:List Ent}(h:Srt es):Srt (qhu v w es):=by
 unfold qhu;refine zaL.2 ⟨h.filter _,List.pairwise_cons.2 ⟨fun b hb=>?_,h.filter _⟩,fun a ha b hb=>?_⟩
 ·simpa using(List.mem_filter.1 hb).2
 ·have h1:Lt a.1 v:=by simpa using(List.mem_filter.1 ha).2
  rcases zak.1 hb with rfl|hb
  ·exact h1
  ·exact h1.tr (by simpa using(List.mem_filter.1 hb).2)
theorem Srt.its {i:Int}{h:Hnd}{es:List Ent}(hs:Srt es) (hk:∀e∈es,e.1.length≤12):Ord (Tr.leaf i h es):=by
 refine⟨?_,fun x hx=>?_⟩
 ·show(es.map It.en).Pairwise RI;rw[List.pairwise_map];exact hs
 ·obtain⟨e,he,rfl⟩:=List.mem_map.1 hx;exact hk e he
theorem bdlt {e:Ent}{X Y:List It}(h:Bd e X Y):(∀a∈qhI X,Lt a.1 e.1)∧∀a∈qhI Y,Lt e.1 a.1:=⟨fun a ha=>h.1 _ (qfZ.1 ha),fun a ha=>h.2 _ (qfZ.1 ha)⟩
theorem qrO {d d':Nat}{i i':Int}{hk hc hk' hc':Hnd}{KA KB:List qaQ}{A B:List (Tr d)}{c c':Tr d}(la:KA.length=A.length) (ho:Ord (Tr.node i hk hc (KA++KB) (A++([c]++B)))) (hc'o:Ord c') (cap:Cap c'.its) (hb:∀e∈c'.es,Bd e (pre KA (A.map fun c=>c.its)) (suf KB (B.map fun c=>c.its))):Ord (Tr.node i' hk' hc' (KA++KB) (A++([c']++B))):=by
 have h1:=ho.pw;rw[qcZ la]at h1;refine⟨?_,fun x hx=>?_⟩
 ·rw[qcZ la];exact qtx h1 hc'o.pw cap hb
 ·rw[qcZ la]at hx;have hk:=ho.kl;rw[qcZ la]at hk;rcases zaf.1 hx with hx|hx
  ·exact hk x (zab _ hx)
  ·rcases zaf.1 hx with hx|hx
   ·exact hc'o.kl x hx
   ·exact hk x (zaa _ (zaa _ hx))
theorem quK {d:Nat}{i:Int}{hk hc:Hnd}{ks:List qaQ}{A B:List (Tr d)}{c:Tr d}(hnd:(Tr.node i hk hc ks (A++([c]++B))).fp.Nodup):c.fp.Nodup:=by
 refine hnd.sublist ?_;rw[←qd5 c];refine zaU.trans ?_ (List.sublist_cons_self _ _);show zaU _ (cell 3 hk++(cell 4 hc++fps (A++([c]++B))));rw[qdL,qdL];exact(List.sublist_append_left _ _).trans ((zaM _ _).trans ((zaM _ _).trans (zaM _ _)))
structure InsR (o:Nat) (p:HpP) {d:Nat}(t:Tr d) (v:qaQ) (w:Int) (q:HpP) (a:Bool) (t':Tr d):Prop where
 mov:Mov p t q t'
 fil:Fil o t'
 ord:Ord t'
 es:t'.es=qhu v w t.es
 add:a= !qgt v t.es
 f1:t.fill≤t'.fill
 f2:t'.fill≤t.fill+1
theorem qb2 {i:Int}{h:Hnd}{es:List Ent}:(Tr.leaf i h es).es=es:=qsU es
theorem qoB (ho:Odr N o) (b:Int) (v:qaQ) (w:Int) (hv:v.length≤12): {d:Nat}→(M:Nat)→d<M→{p:HpP}→Box p b o→(t:Tr d)→Rp p t→t.fp.Nodup→Fil o t→Ord t→t.fill≤100→
  Ret (fun r=>∃t',InsR o p t v w r.1 r.2.1 t') (qbs N M p ((b,0),(t.ptr,((v,(w,())),()))))
 |_,0,h,_,_,_,_,_,_,_,_=>absurd h (Nat.not_lt_zero _)
 |0,M+1,_,p,hb,.leaf i h es,hr,hnd,hf,hord,hl=>by
  have hl:es.length≤100:=hl;obtain⟨a1,a2,a3⟩:=qfe hr.1;have e:=qcY (N:=N) hr hf;obtain⟨A,Mi,B,cu,se⟩:=qiz ho.n hr hord (by omega) v;show Ret _ (qbs N (Nat.succ M) p ((b,0),((i,0),((v,(w,())),()))));delta qbs;dsimp -zeta only;extract_lets c0;have e0:c0=(p,(true,())):=by show qy (qr N p ((i,0),())) _=_;rw[show qr N p ((i,0),())=_ from e,qg];rfl
  clear_value c0;subst e0;refine Ret.G (by rw[show qr N p ((i,0),())=_ from e,qf]) (Ret.Jv (Ret.Jv (Ret.G rfl (Ret.Rv ?_))));dsimp -zeta only;extract_lets c1 c2;have e1:c1=some (p,((A.length:Int),(!Mi.isEmpty,()))):=se;have e2:c2=(p,((A.length:Int),(!Mi.isEmpty,()))):=by show qy c1 _=_;rw[e1,qg]
  clear_value c1 c2;subst e1 e2;refine Ret.G (qf _) (Ret.Jv (Ret.Jv (Ret.Jv (Ret.Rv ?_))));dsimp -zeta only;extract_lets c3 c4 c5 c6;have hsl:=hr.2;have hab:es.length=A.length+(Mi.length+B.length):=by rw[cu.eq];simp
  have hg:qgt v es= !Mi.isEmpty:=by
   unfold qgt;rw[cu.get];cases Mi<;>rfl
  have hs:=qnn (v:=v) (w:=w) hord.en.1;have hkl:∀e∈qhu v w es,e.1.length≤12:=fun e he=>by
   rcases qp1 he with rfl|he
   ·exact hv
   ·exact hord.en.2 e he
  rcases cu.mid with hm|⟨m,hm,hmk⟩
  ·subst hm;obtain⟨q',h',g1,g2,g3,g4⟩:=ins1 (bytes:=32) hsl (v,(w,())) (k:=A.length) (by omega) (by omega);have e4:c4=some (p.u2 q',(h',())):=by
    show qbF N (p.a2 [(v,(w,()))]) ((p.g1 i 0).1,((A.length:Int),((qn p.q2,(0,qn [(v,(w,()))])),())))=_;rw[a1];show(qkm 32 (qdc p.q2 [(v,(w,()))]) h (A.length:Int) (qn p.q2,(0,qn [(v,(w,()))]))).map _=_;rw[g1];rfl
   have e5:c5=(p.u2 q',(h',())):=by show qy c4 _=_;rw[e4,qg]
   clear_value c4 c5;subst e4 e5;have r':qN (p.u2 q').q1 i=some [(h,(zH,(zH,())))]:=hr.1;obtain⟨f1,f2,_⟩:=qfe r';refine Ret.G (by rw[a2,a3,qf,f2];rfl) (Ret.R fun h7 e7=>Ret.mk ⟨.leaf i h' (qhu v w es),?_,trivial,hs.its hkl,by rw[qb2,qb2],by rw[qb2,hg],?_,?_⟩)
   ·replace e7:h7=(p.u2 q').w1 i 0 (h',((p.u2 q').g1 i 0).2):=e7;rw[qtf r',f1]at e7;have hi:((1:Nat),i)∈(Tr.leaf i h es).fp:= .head _;have s2:Sl q' h' (qhu v w es):=by
     rw[cu.put];have e:=cu.eq;rw[zaR]at e;rw[e,List.take_left,List.drop_left]at g2;exact g2
    have hl':=s2.lt;subst e7;refine⟨⟨qar hr.1,s2⟩,rfl,⟨rfl,rfl,rfl,rfl,rfl,Up.set (qP hr.1).1 hi,qeV g4 fun x hx=>.tail _ hx,Up.refl,Up.refl⟩,fun x hx=>?_,?_⟩
    ·rcases zak.1 hx with rfl|hx
     ·exact .inl (.head _)
     ·rw[(qda hx).1];exact .inr g3
    ·show((1,i)::cell 2 h').Nodup;unfold cell;split<;>simp
   ·show es.length≤(qhu v w es).length;rw[cu.put];simp;simp at hab;omega
   ·show(qhu v w es).length≤es.length+1;rw[cu.put];simp;simp at hab;omega
  ·subst hm;have hk:A.length<es.length:=by simp at hab;omega
   have hm:es[A.length]=m:=by
    have:=cu.eq;subst this;simp
   have g:=hsl.get hk zP2 [];obtain⟨w1,w2,w3⟩:=hsl.alive hk;have e6:c6=m:=by show p.g2 (p.g1 i 0).1.1 (qX (p.g1 i 0).1.2.1 (A.length:Int))=_;rw[a1,←hm];exact g
   clear_value c6;subst e6;refine Ret.G (by rw[a1,a2,a3];dsimp only;rw[hsl.len,w2,show p.s2 h.1=true from w1,qbG];simp;omega) (Ret.R fun h7 e7=>Ret.mk ⟨.leaf i h (qhu v w es),?_,trivial,hs.its hkl,by rw[qb2,qb2],by rw[qb2,hg],?_,?_⟩)
   ·replace e7:h7=p.w2 (p.g1 i 0).1.1 (qX (p.g1 i 0).1.2.1 (A.length:Int)) (c6.1,(w,())):=e7;rw[a1]at e7;have s2:=hsl.set hk (c6.1,(w,())) [];have e:es.set A.length (c6.1,(w,()))=qhu v w es:=by
     rw[cu.put,hmk];have:=cu.eq;subst this;simp
    rw[e]at s2;have hi:((2:Nat),h.1)∈(Tr.leaf i h es).fp:=by
     show _∈(1,i)::cell 2 h;rw[qbT w3];exact .tail _ (.head _)
    subst e7;exact⟨⟨hr.1,s2⟩,rfl,⟨rfl,rfl,rfl,rfl,rfl,Up.refl,Up.set w3 hi,Up.refl,Up.refl⟩,Sub.refl,hnd⟩
   ·show es.length≤(qhu v w es).length;rw[cu.put];simp;simp at hab;omega
   ·show(qhu v w es).length≤es.length+1;rw[cu.put];simp;simp at hab;omega
 |d+1,M+1,hM,p,hb,.node i hk hc ks cs,hr,hnd,hf,hord,hl=>by
  have hl2:cs.length≤100:=hl;have h3:=ho.lo;have h16:=ho.hi;obtain⟨a1,a2,a3⟩:=qfe hr.1;have e:=qcY (N:=N) hr hf;obtain⟨KA,KB,A,c,B,ps,ce⟩:=qjX ho.n hr hf hord (by omega) v;obtain⟨rfl,rfl,la,bd⟩:=ps;have lb:KB.length=B.length:=by have:(A++c::B).length=(KA++KB).length+1:=hf.1;simp[la]at this;omega
  have hab:A.length+B.length+1≤100:=by simp at hl2;omega
  have okc:Okc o c:=hf.2 c (zaa _ (.head _));have rc:Rp p c:=hr.2.2.2 c (zaa _ (.head _));obtain⟨k1,k2,k3⟩:=kid hr.2.2.1;have oc:Ord c:=by
   have h1:=hord.pw;have h2:=hord.kl;have e:(Tr.node i hk hc (KA++KB) (A++c::B)).its=_:=qcZ (c:=c) la;rw[e]at h1 h2;exact⟨(zaL.1 (zaL.1 h1).2.1).1,fun x hx=>h2 x (zaa _ (zab _ hx))⟩
  obtain⟨⟨p1,ad,⟨⟩⟩,i1,c',i2⟩:=qoB ho b v w hv M (by omega) hb c rc (quK hnd) okc.2.2 oc (by have:=okc.2.1;omega);dsimp only at i2;show Ret _ (qbs N (Nat.succ M) p ((b,0),((i,0),((v,(w,())),()))));delta qbs;dsimp -zeta only;extract_lets c0;have e0:c0=(p,(false,())):=by show qy (qr N p ((i,0),())) _=_;rw[show qr N p ((i,0),())=_ from e,qg];rfl
  clear_value c0;subst e0;refine Ret.G (by rw[show qr N p ((i,0),())=_ from e,qf]) (Ret.Jv (Ret.Jv (Ret.F rfl (Ret.Rv ?_))));dsimp -zeta only;extract_lets c7 c8;have e7:c7=some (p,((A.length:Int),())):=ce;have e8:c8=(p,((A.length:Int),())):=by show qy c7 _=_;rw[e7,qg]
  clear_value c7 c8;subst e7 e8;refine Ret.G (qf _) (Ret.Jv (Ret.Jv (Ret.Rv ?_)));dsimp -zeta only;extract_lets c9 c10;have e9:c9=some (p1,(ad,())):=by
   show qbs N M p ((b,0),(p.g4 (p.g1 i 0).2.2.1.1 (qX (p.g1 i 0).2.2.1.2.1 (A.length:Int)),((v,(w,())),())))=_;rw[a1];dsimp only;rw[k1];exact i1
  have e10:c10=(p1,(ad,())):=by show qy c9 _=_;rw[e9,qg]
  clear_value c9 c10;subst e9 e10;refine Ret.G (by rw[a1,a2,a3,qf];dsimp only;rw[k2,k3];rfl) (Ret.Jv (Ret.Jv (Ret.Rv ?_)));dsimp -zeta only;have ms:=i2.mov.one;obtain⟨d1,d3,d4⟩:=qmP hr hnd ms.fr;have ptr:c'.ptr=c.ptr:=by show(c'.id,(0:Int))=(c.id,0);rw[i2.mov.id]
  have mv:Mov p (Tr.node i hk hc (KA++KB) (A++([c]++B))) p1 (Tr.node i hk hc (KA++KB) (A++([c']++B))):=reb hr hnd ms Fr.refl d1 d3 (by
   have:(A++([c']++B)).map (fun c=>c.ptr)=(A++([c]++B)).map fun c=>c.ptr:=by simp[ptr]
   rw[this];exact d4) (.inl rfl) (.inl rfl)
  have hin:∀e∈c'.es,Bd e (pre KA (A.map fun c=>c.its)) (suf KB (B.map fun c=>c.its)):=fun e he=>by
   rw[i2.es]at he;rcases qp1 he with rfl|he
   ·exact bd w
   ·have h1:=hord.pw;rw[show(Tr.node i hk hc (KA++KB) (A++c::B)).its=_ from qcZ (c:=c) la]at h1;exact bd_of h1 he
  have f1:=i2.f1;have f2:=i2.f2;have ord1:Ord (Tr.node i hk hc (KA++KB) (A++([c']++B))):=qrO (d':=d) la hord i2.ord (c'.cap (by omega) i2.fil (by have:=okc.1;omega)) hin;obtain⟨⟨p2,⟨⟩⟩,s1,t',s2,s3,s4,s5,s6,s7⟩:=qig ho (hb.fr i2.mov.fr) mv.rp mv.nd ord1 la lb (fun a ha=>hf.2 a (by
   rcases zaf.1 ha with ha|ha
   ·exact zab _ ha
   ·exact zaa _ (.tail _ ha))) i2.fil (by have:=okc.1;omega) (by have:=okc.2.1;omega) (by omega)
  extract_lets c11;have e11:c11=some (p2,()):=s1;clear_value c11;subst e11;refine Ret.G (qf _) (Ret.Jv (Ret.Jv (Ret.Rv (Ret.mk ⟨t',?_⟩))));rw[qg];have ee:=bdlt (bd w);have e1:(Tr.node i hk hc (KA++KB) (A++c::B)).es=qhI (pre KA (A.map fun c=>c.its))++(c.es++qhI (suf KB (B.map fun c=>c.its))):=by
   rw[Tr.es,show(Tr.node i hk hc (KA++KB) (A++c::B)).its=_ from qcZ (c:=c) la,qaR,qaR]
  have e2:(Tr.node i hk hc (KA++KB) (A++([c']++B))).es=qhI (pre KA (A.map fun c=>c.its))++(c'.es++qhI (suf KB (B.map fun c=>c.its))):=by
   rw[Tr.es,qcZ la,qaR,qaR]
  refine⟨mv.trans s2,s3,s4,?_,?_,?_,?_⟩
  ·rw[s5,e2,i2.es,e1,qtm ee.1 ee.2]
  ·rw[qgt,e1,qjZ ee.1 ee.2];exact i2.add
  ·show(A++c::B).length≤_;simp;omega
  ·show _≤(A++c::B).length+1;simp;omega
end
end Go.Proofs.Ytdiobaoelhdkoaa
namespace Go.Proofs.Ytdiobaoelhdkoaa
open Go.Vi
noncomputable section
variable {p q q2:HpP}{o N:Nat}
theorem qsN (ho:Odr N o) {d:Nat}{t:Tr d}(hd:d<N) (hr:Rp p t) (hf:Fil o t) (h0:0<t.fill):Ret (fun r=>r.1=p∧∃e L,t.its=.en e::L∧r.2.1=e.1) (qdk N p (t.ptr,())):=by
 have h3:=ho.lo;delta qdk;refine Ret.it (fun k (s:(Int×Int)×(HpP×Unit))=>∃t':Tr k,s=(t'.ptr,(p,()))∧Rp p t'∧Fil o t'∧0<t'.fill∧∃L,t.its=t'.its++L) (m:=d) ⟨t,rfl,hr,hf,h0,[],by rw[zaO]⟩ hd fun k s ih _ hI hih=>?_;obtain⟨t',rfl,hr',hf',h0',L,hL⟩:=hI;have e:=qcY (N:=N) hr' hf';dsimp -zeta only;extract_lets c0;have e0:c0=(p,(decide (k=0),())):=by show qy (qr N p (t'.ptr,())) _=_;rw[e,qg]
 clear_value c0;subst e0;refine Ret.G (by rw[e,qf]) ?_;match k,t',hr',hf',h0',hL,hih,e with
 |0,.leaf i h es,hr',hf',h0',hL,hih,e=>
  have h0':0<es.length:=h0';obtain⟨a1,a2,a3⟩:=qfe hr'.1;obtain⟨w1,w2,w3⟩:=hr'.2.alive h0';refine Ret.F rfl (Ret.Rv ?_);show Ret _ (bif (leI 0 i&&(leI 0 i&&(p.s1 i&&(inB 0 (qaS (p.g1 i 0).1.2.2 (p.g1 i 0).1.2.1)&&(leI 0 (p.g1 i 0).1.1&&p.s2 (p.g1 i 0).1.1)))))then some (p,((p.g2 (p.g1 i 0).1.1 (qX (p.g1 i 0).1.2.1 0)).1,()))else none);rw[a1,a2,a3];dsimp only;rw[w2,show p.s2 h.1=true from w1,hr'.2.len];refine Ret.G (by rw[qbG];simp;omega) (Ret.mk ⟨rfl,es[0],(es.drop 1).map .en++L,?_,?_⟩)
  ·rw[hL];show es.map It.en++L=_;conv=>lhs;rw[←zaN (l:=es),zaB h0']
   rfl
  ·have:=hr'.2.get h0' zP2 [];exact congrArg (fun e:Ent=>e.1) this
 |k+1,.node i hk hc ks (c::cs),hr',hf',_,hL,hih,e=>
  obtain⟨a1,a2,a3⟩:=qfe hr'.1;obtain⟨k1,k2,k3⟩:=kid (A:=[]) (B:=cs) (c:=c) hr'.2.2.1;refine Ret.G rfl (Ret.Rv ?_);show Ret _ (bif (leI 0 i&&(leI 0 i&&(p.s1 i&&(inB 0 (qaS (p.g1 i 0).2.2.1.2.2 (p.g1 i 0).2.2.1.2.1)&&(p.s4 (p.g1 i 0).2.2.1.1)))))then ih ((p.g4 (p.g1 i 0).2.2.1.1 (qX (p.g1 i 0).2.2.1.2.1 0)),(p,()))else none);rw[a1,a2,a3];dsimp only;have okc:=hf'.2 c (.head _);rw[k2,show inB 0 (qaS hc.2.2 hc.2.1)=true from k3,show p.g4 hc.1 (qX hc.2.1 0)=c.ptr from k1];refine Ret.G rfl (hih k _ (by omega) ⟨c,rfl,hr'.2.2.2 c (.head _),okc.2.2,by have:=okc.1;omega,suf ks (cs.map fun c=>c.its)++L,?_⟩);rw[hL];show(c.its++suf ks (cs.map fun c=>c.its))++L=_;rw[zau]
structure Mrg (o:Nat) {d:Nat}(l:Tr d) (k:qaQ) (r lr:Tr d):Prop where
 pw:∀X Y,(X++(l.its++(.sp k::r.its++Y))).Pairwise RI→(X++(lr.its++Y)).Pairwise RI
 es:lr.es=l.es++r.es
 kl:∀x∈lr.its,∃y∈l.its++r.its,x.key=y.key
 fil:Fil o lr
 fill:lr.fill=l.fill+r.fill
structure qvL (p:HpP) (i:Int) (he hk hc:Hnd) (es:List Ent) (ks:List qaQ) (ps:List (Int×Int)):Prop where
 row:qN p.q1 i=some [(he,(hk,(hc,())))]
 e:Sl p.q2 he es
 k:Sl p.q3 hk ks
 c:Sl p.q4 hc ps
abbrev ncel (i:Int) (he hk hc:Hnd):List (Nat×Int):=(1,i)::(cell 2 he++(cell 3 hk++cell 4 hc))
theorem qvL.fr {i:Int}{he hk hc:Hnd}{es:List Ent}{ks:List qaQ}{ps:List (Int×Int)}{F:List (Nat×Int)}(h:qvL p i he hk hc es ks ps) (f:Fr F p q) (hn:∀x∈ncel i he hk hc,x∉F):qvL q i he hk hc es ks ps:=
 ⟨f.k1.kp _ (hn _ (.head _)) _ h.row,qno h.e f.k2 fun x hx=>hn x (.tail _ (zab _ hx)),qno h.k f.k3 fun x hx=>hn x (.tail _ (zaa _ (zab _ hx))),qno h.c f.k4 fun x hx=>hn x (.tail _ (zaa _ (zaa _ hx)))⟩
end
end Go.Proofs.Ytdiobaoelhdkoaa
namespace Go.Proofs.Ytdiobaoelhdkoaa
open Go.Vi
noncomputable section
variable {p q q2:HpP}{o N:Nat}
structure Own where
 he:Hnd
 hk:Hnd
 hc:Hnd
 es:List Ent
 ks:List qaQ
 ps:List (Int×Int)
def Tr.own: {d:Nat}→Tr d→Own
 |0,.leaf _ h es=>⟨h,zH,zH,es,[],[]⟩
 |_+1,.node _ hk hc ks cs=>⟨zH,hk,hc,[],ks,cs.map fun c=>c.ptr⟩
abbrev qvN (p:HpP) {d:Nat}(t:Tr d):Prop:=qvL p t.id t.own.he t.own.hk t.own.hc t.own.es t.own.ks t.own.ps
abbrev Tr.oc {d:Nat}(t:Tr d):List (Nat×Int):=ncel t.id t.own.he t.own.hk t.own.hc
theorem Rp.own: {d:Nat}→{t:Tr d}→Rp p t→qvN p t
 |0,.leaf _ _ _,h=>⟨h.1,h.2,Sl.nil,Sl.nil⟩
 |_+1,.node _ _ _ _ _,h=>⟨h.1,Sl.nil,h.2.1,h.2.2.1⟩
theorem qqk {k:Nat}:cell k zH=[]:=rfl
theorem qva: {d:Nat}→(t:Tr d)→∀x∈t.oc,x∈t.fp
 |0,.leaf i h es,x,hx=>by
  show x∈(1,i)::cell 2 h;simpa[Tr.own,Tr.id,qqk]using hx
 |_+1,.node i hk hc ks cs,x,hx=>by
  show x∈(1,i)::(cell 3 hk++(cell 4 hc++fps cs));have:x=(1,i)∨x∈cell 3 hk∨x∈cell 4 hc:=by simpa[Tr.own,Tr.id,qqk]using hx
  rcases this with rfl|h|h
  ·exact .head _
  ·exact .tail _ (zab _ h)
  ·exact .tail _ (zaa _ (zab _ h))
theorem qsM {d:Nat}{t:Tr d}(hf:Fil o t):t.own.es.length≤t.fill∧t.own.ks.length≤t.fill∧t.own.ps.length≤t.fill:=
 match d,t,hf with
 |0,.leaf _ _ es,_=>⟨zax _,zaD _,zaD _⟩
 |_+1,.node _ _ _ ks cs,hf=>⟨zaD _,by have:cs.length=ks.length+1:=hf.1;show ks.length≤cs.length;omega,by show(cs.map _).length≤cs.length;simp⟩
theorem qf0 {α:Type}{q:List (Option (List α))}{h:Hnd}{xs:List α}(s:Sl q h xs) (ys:List α) {b:Nat}(hb:(xs.length+ys.length)*b≤140737488355328):leI h.2.1 0=true∧qc1 h.2.2 (qn ys) b=true:=by
 refine⟨by rw[s.lo,qdX];rfl,?_⟩;have:=qj8 (xs:=xs) (ys:=ys) hb;rw[qv xs]at this;rw[s.hi];exact this
theorem qvx {d:Nat}{t:Tr d}(h:d=0):t.own.hk=zH∧t.own.hc=zH∧t.own.ks=[]∧t.own.ps=[]:=by
 subst h;exact⟨rfl,rfl,rfl,rfl⟩
theorem qhw {d:Nat}{t:Tr d}(h:d≠0):t.own.he=zH∧t.own.es=[]:=by
 cases d with
 |zero=>exact absurd rfl h
 |succ d=>exact⟨rfl,rfl⟩
theorem qtG (ho:Odr N o) {d:Nat}{l r:Tr d}{k mk:qaQ}{e:Ent}{L:List It}{el kl cl:Hnd}{K1:List qaQ}(hl:Rp p l) (hr:Rp p r) (hnd:(l.fp++r.fp).Nodup) (fl:Fil o l) (fr:Fil o r) (l0:0<l.fill) (r0:0<r.fill) (hm:r.its=.en e::L) (hmk:mk=e.1) (f:Fr l.oc p q)
  (hn:qvL q l.id el kl cl (l.own.es++r.own.es) (K1++r.own.ks) (l.own.ps++r.own.ps)) (z0:d=0→K1=[]∧kl=zH∧cl=zH) (z1:d≠0→K1=l.own.ks++[mk]∧el=zH)
  (he:el.1=l.own.he.1∨qn p.q2≤el.1) (hk:kl.1=l.own.hk.1∨qn p.q3≤kl.1) (hc:cl.1=l.own.hc.1∨qn p.q4≤cl.1):
  ∃lr:Tr d,Mrg o l k r lr∧MovS p [l,r] q [lr]∧lr.ptr=l.ptr:=by
 have hfr:Fr (fps [l,r]) p q:=f.sub fun x hx=>.inl (by rw[qgW];exact zab _ (qva l x hx));have capl:=l.cap (by have:=ho.lo;omega) fl l0;match d,l,r,hl,hr,hnd,fl,fr,l0,r0,hm,f,hn,z0,z1,he,hk,hc,hfr,capl with
 |0,.leaf il h es,.leaf ir h2 es2,hl,hr,hnd,fl,fr,l0,r0,hm,f,hn,z0,z1,he,hk,hc,hfr,capl=>
  obtain⟨rfl,rfl,rfl⟩:=z0 rfl;have its:(Tr.leaf il el (es++es2)).its=es.map It.en++es2.map It.en:=List.map_append;refine⟨.leaf il el (es++es2),⟨fun X Y h=>?_,?_,fun x hx=>⟨x,by rw[its]at hx;exact hx,rfl⟩,trivial,zag⟩,⟨fun m hm=>?_,hfr,fun x hx=>?_,?_⟩,rfl⟩
  ·rw[its,zau];exact h.sublist (zaU.append_left (zaU.append_left (List.sublist_cons_self _ _) _) _)
  ·rw[qb2,qb2,qb2]
  ·rw[zah.1 hm];exact⟨hn.row,hn.e⟩
  ·rw[qd5]at hx;rw[qgW];rcases zak.1 hx with rfl|hx
   ·exact .inl (.head _)
   ·obtain⟨rfl,h0⟩:=qda hx;rcases he with he|he
    ·left;have he:el.1=h.1:=he;rw[he]at h0⊢
     exact .tail _ (zab _ (by rw[qbT h0];exact .head _))
    ·exact .inr he
  ·rw[qd5];show((1,il)::cell 2 el).Nodup;unfold cell;split<;>simp
 |d+1,.node il hkl hcl ksl csl,.node ir hkr hcr ksr csr,hl,hr,hnd,fl,fr,l0,r0,hm,f,hn,z0,z1,he,hk,hc,hfr,capl=>
  obtain⟨rfl,rfl⟩:=z1 (by omega);have fl1:csl.length=ksl.length+1:=fl.1;have fr1:csr.length=ksr.length+1:=fr.1;have hnk:Sl q.q3 kl (ksl++mk::ksr):=by have:=hn.k;rw[zau]at this;exact this
  have its:(Tr.node il kl cl (ksl++mk::ksr) (csl++csr)).its=(Tr.node il hkl hcl ksl csl).its++ .sp mk::(Tr.node ir hkr hcr ksr csr).its:=by
   show qfm (ksl++mk::ksr) ((csl++csr).map _)=qfm ksl (csl.map _)++It.sp mk::qfm ksr (csr.map _);rw[List.map_append,qoj (by rw[zaH];exact fl1) (by rw[zaH];omega)]
  have efl:(Tr.node il hkl hcl ksl csl).fp=cel il hkl hcl++fps csl:=by show(1,il)::(cell 3 hkl++(cell 4 hcl++fps csl))=_;simp
  have efr:(Tr.node ir hkr hcr ksr csr).fp=cel ir hkr hcr++fps csr:=by show(1,ir)::(cell 3 hkr++(cell 4 hcr++fps csr))=_;simp
  have efm:fps [Tr.node il kl cl (ksl++mk::ksr) (csl++csr)]=[]++(cel il kl cl++(fps csl++fps csr)):=by
   rw[qd5];show(1,il)::(cell 3 kl++(cell 4 cl++fps (csl++csr)))=_;rw[qdL];simp
  have ol:=Rp.old _ hl;have or':=Rp.old _ hr;rw[efl]at ol;rw[efr]at or';have hsub:Sub p (cel il hkl hcl) (cel il kl cl):=fun x hx=>by
   rcases zak.1 hx with rfl|hx
   ·exact .inl (.head _)
   ·rcases zaf.1 hx with hx|hx
    ·obtain⟨rfl,h0⟩:=qda hx;rcases hk with hk|hk
     ·have hk:kl.1=hkl.1:=hk;rw[hk]at h0⊢
      exact .inl (.tail _ (zab _ (by rw[qbT h0];exact .head _)))
     ·exact .inr hk
    ·obtain⟨rfl,h0⟩:=qda hx;rcases hc with hc|hc
     ·have hc:cl.1=hcl.1:=hc;rw[hc]at h0⊢
      exact .inl (.tail _ (zaa _ (by rw[qbT h0];exact .head _)))
     ·exact .inr hc
  have hnd2:([]++(cel il hkl hcl++(fps csl++fps csr))).Nodup:=by
   rw[efl,efr]at hnd;refine hnd.sublist ?_;show zaU (cel il hkl hcl++(fps csl++fps csr)) _;rw[zau];exact zaU.append_left (zaU.append_left (zaM _ _) _) _
  have kids:∀c∈csl++csr,Rp q c:=fun c hc=>by
   have h0:Rp p c:=by
    rcases zaf.1 hc with hc|hc
    ·exact hl.2.2.2 c hc
    ·exact hr.2.2.2 c hc
   refine h0.fr f _ fun x hx hm=>?_;have hm':x∈cel il hkl hcl:=by
    have:x=(1,il)∨x∈cell 3 hkl∨x∈cell 4 hcl:=by simpa[Tr.own,Tr.id,qqk]using hm
    rcases this with rfl|h|h
    ·exact .head _
    ·exact cel3 x h
    ·exact cel4 x h
   rw[zaR,zai]at hnd2;refine hnd2.2.2 x hm' x ?_ rfl;rw[←qdL];exact List.mem_flatMap.2 ⟨c,hc,hx⟩
  refine⟨.node il kl cl (ksl++mk::ksr) (csl++csr),⟨fun X Y h=>?_,?_,fun x hx=>?_,⟨by simp;omega,fun c hc=>?_⟩,zag⟩,⟨fun m hm=>?_,hfr,fun x hx=>?_,?_⟩,rfl⟩
  ·have h2:(X++((Tr.node il hkl hcl ksl csl).its++((Tr.node ir hkr hcr ksr csr).its++Y))).Pairwise RI:=h.sublist (zaU.append_left (zaU.append_left (List.sublist_cons_self _ _) _) _);rw[its,zau];exact qrP h2 capl hm hmk.symm
  ·rw[Tr.es,its,qaR];rfl
  ·rw[its]at hx;rcases zaf.1 hx with hx|hx
   ·exact⟨x,zab _ hx,rfl⟩
   ·rcases zak.1 hx with rfl|hx
    ·exact⟨.en e,zaa _ (by rw[hm];exact .head _),hmk⟩
    ·exact⟨x,zaa _ hx,rfl⟩
  ·rcases zaf.1 hc with hc|hc
   ·exact fl.2 c hc
   ·exact fr.2 c hc
  ·rw[zah.1 hm];exact⟨hn.row,hnk,by have:=hn.c;rw[show Tr.own (Tr.node il hkl hcl ksl csl)=⟨zH,hkl,hcl,[],ksl,csl.map fun c=>c.ptr⟩from rfl,show Tr.own (Tr.node ir hkr hcr ksr csr)=⟨zH,hkr,hcr,[],ksr,csr.map fun c=>c.ptr⟩from rfl,←List.map_append]at this;exact this,kids⟩
  ·rw[efm,zaR]at hx;rw[qgW,efl,efr];rcases zaf.1 hx with hx|hx
   ·rcases hsub x hx with g|g
    ·exact .inl (zab _ (zab _ g))
    ·exact .inr g
   ·rcases zaf.1 hx with hx|hx
    ·exact .inl (zab _ (zaa _ hx))
    ·exact .inl (zaa _ (zaa _ hx))
  ·rw[efm];refine qr0 hnd2 ?_ hsub (fun x hx=>by cases hx) fun x hx=>?_
   ·unfold cel cell;split<;>split<;>simp
   ·rcases zaf.1 hx with hx|hx
    ·exact ol x (zaa _ hx)
    ·exact or' x (zaa _ hx)
end
end Go.Proofs.Ytdiobaoelhdkoaa
namespace Go.Proofs.Ytdiobaoelhdkoaa
open Go.Vi
noncomputable section
variable {p q q2:HpP}{o N:Nat}
theorem oc2 {d:Nat}{l:Tr d}:∀x∈cell 2 l.own.he,x∈l.oc:=fun _ hx=>.tail _ (zab _ hx)
theorem oc3 {d:Nat}{l:Tr d}:∀x∈cell 3 l.own.hk,x∈l.oc:=fun _ hx=>.tail _ (zaa _ (zab _ hx))
theorem oc4 {d:Nat}{l:Tr d}:∀x∈cell 4 l.own.hc,x∈l.oc:=fun _ hx=>.tail _ (zaa _ (zaa _ hx))
theorem kid' {PS:List (Int×Int)}{hc:Hnd}(s:Sl p.q4 hc PS) {j:Nat}(hj:j<PS.length):p.g4 hc.1 (qX hc.2.1 (j:Int))=PS[j]∧p.s4 hc.1=true∧inB (j:Int) (qaS hc.2.2 hc.2.1)=true:=
 ⟨s.get hj _ _,(s.alive hj).1,by rw[s.len,qbG];exact decide_eq_true (by omega)⟩
theorem qtq (ho:Odr N o) {d:Nat}(hd:d<N) {i:Int}{hk hc:Hnd}{KA KB:List qaQ}{k:qaQ}{A B:List (Tr d)}{l r:Tr d}(hr:Rp p (Tr.node i hk hc (KA++k::KB) (A++([l,r]++B)))) (hnd:(Tr.node i hk hc (KA++k::KB) (A++([l,r]++B))).fp.Nodup)
  (la:KA.length=A.length) (lb:KB.length=B.length) (fl:Fil o l) (fr:Fil o r) (l0:0<l.fill) (r0:0<r.fill) (hs:l.fill+r.fill≤1000) (hs2:A.length+B.length≤1000):
  Ret (fun q=>∃lr hk' hc',Mrg o l k r lr∧Mov p (Tr.node i hk hc (KA++k::KB) (A++([l,r]++B))) q.1 (Tr.node i hk' hc' (KA++KB) (A++([lr]++B)))) (qc6 N p ((i,0),((A.length:Int),()))):=by
 obtain⟨a1,a2,a3⟩:=qfe hr.1;have rl:Rp p l:=hr.2.2.2 l (zaa _ (.head _));have rr:Rp p r:=hr.2.2.2 r (zaa _ (.tail _ (.head _)));have hpl:(A++([l,r]++B)).length=A.length+B.length+2:=by simp;omega
 obtain⟨k1,k2,k3⟩:=kid (A:=A) (c:=l) (B:=r::B) hr.2.2.1;obtain⟨k4,_,k6⟩:=kid' hr.2.2.1 (j:=A.length+1) (by rw[zaH];omega);have k4:p.g4 hc.1 (qX hc.2.1 ((A.length+1:Nat):Int))=r.ptr:=by
  rw[k4];simp
 have ei:qaj .i64 (A.length:Int) 1=((A.length+1:Nat):Int):=qa2 (by omega);have ei2:qaj .i64 (A.length:Int) 2=((A.length+1+1:Nat):Int):=by rw[qbK (by omega) (by omega)];omega
 have ndlr:(l.fp++r.fp).Nodup:=by
  refine hnd.sublist ?_;rw[←qgW l r];refine zaU.trans ?_ (List.sublist_cons_self _ _);show zaU _ (cell 3 hk++(cell 4 hc++fps (A++([l,r]++B))));rw[qdL,qdL];exact(List.sublist_append_left _ _).trans ((zaM _ _).trans ((zaM _ _).trans (zaM _ _)))
 have dlr:∀x∈r.oc,x∉l.oc:=fun x hx hm=>(zai.1 ndlr).2.2 x (qva l x hm) x (qva r x hx) rfl;have orl:=Rp.old _ rl;have orr:=Rp.old _ rr;have nl':=rl.own;have nr':=rr.own;obtain⟨ll1,ll2,ll3⟩:=qsM fl;obtain⟨lr1,lr2,lr3⟩:=qsM fr;obtain⟨⟨p0,mk,⟨⟩⟩,hm1,hp0,e,L,hm2,hm3⟩:=qsN ho hd rr fr r0;dsimp only at hm3 hp0;rw[hp0]at hm1;have el:=qcY (N:=N) rl fl;obtain⟨q3a,kl1,u1,u2,u3,u4,_⟩:=nl'.k.app [mk];obtain⟨b1,b2,b3⟩:=qfe nl'.row;delta qc6;dsimp -zeta only;extract_lets c0 c1 c2 c3 c4 c5 c6 c7 c8;have e1:c1=l.ptr:=by show p.g4 (p.g1 i 0).2.2.1.1 (qX (p.g1 i 0).2.2.1.2.1 (A.length:Int))=_;rw[a1];exact k1
 have e2:c2=some (p,(decide (d=0),())):=by show qr N p (c1,())=_;rw[e1,el]
 have e3:c3=(p,(decide (d=0),())):=by show qy c2 _=_;rw[e2,qg]
 have e4:c4= !decide (d=0):=by show(!c3.2.1)=_;rw[e3]
 have e5:c5=r.ptr:=by show p.g4 (p.g1 i 0).2.2.1.1 (qX (p.g1 i 0).2.2.1.2.1 (qaj .i64 (A.length:Int) 1))=_;rw[a1,ei];exact k4
 have e6:c6=some (p,(mk,())):=by show qdk N c3.1 (c5,())=_;rw[e3,e5];exact hm1
 have e7:c7=(p,(mk,())):=by show qy c6 _=_;rw[e6,qg]
 have b3r:leI 0 r.id=true:=leT (qP nr'.row).1;have e8:c8=true:=by show leI 0 c5.1=_;rw[e5];exact b3r
 have g0:inB (A.length:Int) c0=true∧inB (qaj .i64 (A.length:Int) 1) c0=true:=by
  have e0:c0=qaS hc.2.2 hc.2.1:=by show qaS (p.g1 i 0).2.2.1.2.2 (p.g1 i 0).2.2.1.2.1=_;rw[a1]
  rw[e0,ei];exact⟨k3,k6⟩
 refine Ret.G (by
  rw[g0.1,g0.2,a1,a2,a3];dsimp only;rw[k2];rfl) (Ret.G (by rw[e2,qf]) (Ret.Jv ?_))
 extract_lets c9 c10;have e9:c9=some (q3a,kl1):=by
  show qfF c7.1.q3 (c3.1.g1 c1.1 c1.2).2.1 [c7.2.1]=_;rw[e1,e3,e7];dsimp only;rw[b1];exact u1
 have e10:c10=(q3a,kl1):=by show qy c9 _=_;rw[e9,qg]
 clear_value c0 c1 c2 c3 c4 c5 c6 c7 c8 c9 c10;subst e1 e2 e3 e4 e5 e6 e7 e8 e9 e10;dsimp -zeta only;have hrm:=qf0 nl'.k [mk] (b:=24) (by simp;omega);refine Ret.G ?_ (Ret.R fun h1 f1=>?_)
 ·rw[b1,b2,b3,qf,qf,qcz];dsimp only;rw[hrm.1,hrm.2];cases decide (d=0)<;>rfl
 have il0:=(qP nl'.row).1;have hin:((1:Nat),l.id)∈l.oc:= .head _;have blk:∃kl K1,qvL h1 l.id l.own.he kl l.own.hc l.own.es K1 l.own.ps∧Fr l.oc p h1∧(kl.1=l.own.hk.1∨qn p.q3≤kl.1)∧(d=0→K1=[]∧kl=zH)∧(d≠0→K1=l.own.ks++[mk])∧K1.length≤1001:=by
  by_cases h0:d=0
  ·rw[decide_eq_true h0]at f1;have f1:h1=p:=f1;subst f1;have o0:=qvx (t:=l) h0;exact⟨l.own.hk,l.own.ks,nl',Fr.refl,.inl rfl,fun _=>⟨o0.2.2.1,o0.1⟩,fun h=>absurd h0 h,by omega⟩
  ·rw[decide_eq_false h0,qtf nl'.row,b1]at f1;have f1:h1=(p.u1 (qdD p.q1 l.id [(l.own.he,(kl1,(l.own.hc,())))])).u3 q3a:=f1;subst f1;exact⟨kl1,_,⟨qar nl'.row,nl'.e,u2,nl'.c⟩,⟨rfl,rfl,rfl,rfl,rfl,Up.set il0 hin,Up.refl,qeV u4 oc3,Up.refl⟩,u3,fun h=>absurd h h0,fun _=>rfl,by simp;omega⟩
 clear f1;obtain⟨kl,K1,n1,f1,hkl,z0,z1,hK1⟩:=blk;have r1:qvN h1 r:=nr'.fr f1 dlr;obtain⟨d1,d2,_⟩:=qfe n1.row;obtain⟨d4,d5,_⟩:=qfe r1.row;obtain⟨qe,el',v1,v2,v3,v4,v5⟩:=n1.e.app r.own.es;have hroom:=qf0 n1.e r.own.es (b:=32) (by omega);extract_lets c11 c12 c13 c14;have e11:c11=some r.own.es:=by show qcJ h1.q2 (h1.g1 r.id 0).1=_;rw[d4];exact r1.e.read
 have e12:c12=r.own.es:=by show qy c11 _=_;rw[e11,qg]
 have e13:c13=some (qe,el'):=by show qfF h1.q2 (h1.g1 l.id 0).1 c12=_;rw[e12,d1];exact v1
 have e14:c14=(qe,el'):=by show qy c13 _=_;rw[e13,qg]
 clear_value c11 c12 c13 c14;subst e11 e12 e13 e14;refine Ret.G (by rw[b3,d1,d2,d5,qf,qf];dsimp only;rw[hroom.1,hroom.2];rfl) (Ret.R fun h2 g2=>?_);rw[qtf n1.row,d1]at g2;have n2r:qN h2.q1 l.id=some [(el',(kl,(l.own.hc,())))]:=by rw[g2];exact qar n1.row
 have s2k:Sl h2.q3 kl K1:=by rw[g2];exact n1.k
 have s2c:Sl h2.q4 l.own.hc l.own.ps:=by rw[g2];exact n1.c
 have s2e:Sl h2.q2 el' (l.own.es++r.own.es):=by rw[g2];exact v2
 have f2:Fr l.oc p h2:=f1.trans1 (by
  rw[g2];exact⟨rfl,rfl,rfl,rfl,rfl,Up.set il0 hin,qeV v4 oc2,Up.refl,Up.refl⟩)
 have r2:qvN h2 r:=nr'.fr f2 dlr;obtain⟨j1,j2,_⟩:=qfe n2r;obtain⟨j4,j5,_⟩:=qfe r2.row;obtain⟨qc,cl',w1,w2,w3,w4,w5⟩:=s2c.app r.own.ps;obtain⟨qk,kl',x1,x2,x3,x4,x5⟩:=s2k.app r.own.ks;have hroomc:=qf0 s2c r.own.ps (b:=8) (by omega);have hroomk:=qf0 s2k r.own.ks (b:=24) (by omega);extract_lets c15 c16 c17 c18 c19 c20 c21 c22 c23 c24 c25 c26 c27 c28 c29;have e15:c15=true:=j5;have e16:c16=(r.own.he,(r.own.hk,(r.own.hc,()))):=j4;have e17:c17=some r.own.ps:=by show qcJ h2.q4 c16.2.2.1=_;rw[e16];exact r2.c.read
 have e18:c18=r.own.ps:=by show qy c17 _=_;rw[e17,qg]
 have e19:c19=some (qc,cl'):=by show qfF h2.q4 (h2.g1 l.id 0).2.2.1 c18=_;rw[e18,j1];exact w1
 have e20:c20=some r.own.ks:=by show qcJ h2.q3 c16.2.1=_;rw[e16];exact r2.k.read
 have e21:c21=r.own.ks:=by show qy c20 _=_;rw[e20,qg]
 have e22:c22=some (qk,kl'):=by show qfF h2.q3 (h2.g1 l.id 0).2.1 c21=_;rw[e21,j1];exact x1
 have e23:c23=(qc,cl'):=by show qy c19 _=_;rw[e19,qg]
 have e24:c24=qdD h2.q1 l.id [(el',(kl,(cl',())))]:=by
  show qdD h2.q1 l.id (qdz (qy (qN h2.q1 l.id) _) 0 ((h2.g1 l.id 0).1,((h2.g1 l.id 0).2.1,(c23.2,(h2.g1 l.id 0).2.2.2))))=_;rw[e23,j1,n2r,qg,qlL]
 have e25:c25=some [(el',(kl,(cl',())))]:=by show qN c24 l.id=_;rw[e24];exact qar n2r
 have e27:c27=[(el',(kl,(cl',())))]:=by show qy c25 _=_;rw[e25,qg]
 have e28:c28=(el',(kl,(cl',()))):=by show qJ c27 0 _=_;rw[e27,qlS]
 have e29:c29=(qk,kl'):=by show qy c22 _=_;rw[e22,qg]
 clear_value c15 c16 c17 c18 c19 c20 c21 c22 c23 c24 c25 c26 c27 c28 c29;subst e15 e16 e17 e18 e19 e20 e21 e22 e23 e24 e25 e27 e28 e29;refine Ret.G (by
  rw[b3,j1,j2,qf,qf,qf,qf,qf,qcz,qcz];dsimp only;rw[hroomc.1,hroomc.2,hroomk.1,hroomk.2];rfl) (Ret.R fun h3 g3=>?_)
 rw[qlL]at g3;have n3:qvL h3 l.id el' kl' cl' (l.own.es++r.own.es) (K1++r.own.ks) (l.own.ps++r.own.ps):=by
  rw[g3];exact⟨qar (qar n2r),s2e,x2,w2⟩
 have hc3:∀x∈cell 3 kl,x∈l.oc∨lnK p x.1≤x.2:=fun x hx=>by
  obtain⟨rfl,h0⟩:=qda hx;rcases hkl with h|h
  ·rw[h]at h0⊢
   exact .inl (oc3 _ (by rw[qbT h0];exact .head _))
  ·exact .inr h
 have f3:Fr l.oc p h3:=by
  have hs:Sub p l.oc (l.oc++cell 3 kl):=fun x hx=>by
   rcases zaf.1 hx with hx|hx
   ·exact .inl hx
   ·exact hc3 x hx
  refine f2.trans hs ?_;rw[g3];have hin':=zab (cell 3 kl) hin;exact⟨rfl,rfl,rfl,rfl,rfl,(Up.set il0 hin').trans (Up.set il0 hin'),Up.refl,qeV x4 fun x hx=>zaa _ hx,qeV w4 fun x hx=>zab _ (oc4 x hx)⟩
 have l12:qn p.q2≤qn h1.q2:=f1.k2.ln;have l23:qn p.q3≤qn h2.q3:=f2.k3.ln;have l24:qn p.q4≤qn h2.q4:=f2.k4.ln;obtain⟨lr,m1,m2,m3⟩:=qtG ho rl rr ndlr fl fr l0 r0 hm2 hm3 f3 n3
  (fun h0=>by
   obtain⟨y1,y2,y3,y4⟩:=qvx (t:=r) h0;obtain⟨_,y6,_⟩:=qvx (t:=l) h0;exact⟨(z0 h0).1,(x5 y3).trans (z0 h0).2,(w5 y4).trans y6⟩)
  (fun h1=>⟨z1 h1,(v5 (qhw (t:=r) h1).2).trans (qhw (t:=l) h1).1⟩)
  (by
   rcases v3 with h|h
   ·exact .inl h
   ·exact .inr (by omega))
  (by
   rcases x3 with h|h
   ·rcases hkl with g|g
    ·exact .inl (h.trans g)
    ·exact .inr (by omega)
   ·exact .inr (by omega))
  (by
   rcases w3 with h|h
   ·exact .inl h
   ·exact .inr (by omega))
 obtain⟨o1,o2,o3⟩:=qmP hr hnd m2.fr;obtain⟨y1,y2,_⟩:=qfe o1;obtain⟨qd,hc',t1,t2,t3,t4⟩:=qs9 (q:=HpP.q4) (u:=HpP.u4) (d:=((-1:Int),(0:Int))) (b:=8) (p:=h3) (fun _ _=>rfl) (fun _ _ _=>rfl) o3 (k:=A.length+1) (by rw[zaH];omega) (by rw[zaH];omega);extract_lets c30 c31;have e30:c30=some (h3.u4 qd,(hc',())):=by
  show qbb N h3 ((h3.g1 i 0).2.2.1,(qaj .i64 (A.length:Int) 1,(qaj .i64 (A.length:Int) 2,())))=_;rw[y1,ei,ei2,dl4];exact t1
 have e31:c31=(h3.u4 qd,(hc',())):=by show qy c30 _=_;rw[e30,qg]
 clear_value c30 c31;subst e30 e31;have o1':qN (h3.u4 qd).q1 i=some [(zH,(hk,(hc,())))]:=o1;obtain⟨y1',y2',_⟩:=qfe o1';refine Ret.G (by rw[a3,y2,qf,y2'];rfl) (Ret.R fun h4 g4=>?_);rw[qtf o1',y1']at g4;have o4:qN h4.q1 i=some [(zH,(hk,(hc',())))]:=by rw[g4];exact qar o1
 have s4k:Sl h4.q3 hk (KA++k::KB):=by rw[g4];exact o2
 obtain⟨z1',z2',_⟩:=qfe o4;obtain⟨qd2,hk',t1',t2',t3',t4'⟩:=qs9 (q:=HpP.q3) (u:=HpP.u3) (d:=([]:List qi)) (b:=24) (p:=h4) (fun _ _=>rfl) (fun _ _ _=>rfl) s4k (k:=A.length) (by simp;omega) (by simp;omega);extract_lets c32 c33;have e32:c32=some (h4.u3 qd2,(hk',())):=by
  show qbx N h4 ((h4.g1 i 0).2.1,((A.length:Int),(qaj .i64 (A.length:Int) 1,())))=_;rw[z1',ei,dl3];exact t1'
 have e33:c33=(h4.u3 qd2,(hk',())):=by show qy c32 _=_;rw[e32,qg]
 clear_value c32 c33;subst e32 e33;have o4':qN (h4.u3 qd2).q1 i=some [(zH,(hk,(hc',())))]:=o4;obtain⟨z3,z4,_⟩:=qfe o4';refine Ret.G (by rw[a3,z2',qf,z4];rfl) (Ret.mk ⟨lr,hk',hc',m1,?_⟩);dsimp only;rw[qtf o4',z3];have hi0:=(qP hr.1).1;have hin:((1:Nat),i)∈cel i hk hc:= .head _;have f:Fr (cel i hk hc) h3 ((h4.u3 qd2).u1 (qdD (h4.u3 qd2).q1 i [(zH,(hk',(hc',())))])):=by
  subst g4;exact⟨rfl,rfl,rfl,rfl,rfl,(Up.set hi0 hin).trans (Up.set hi0 hin),Up.refl,qeV t4' cel3,qeV t4 cel4⟩
 refine reb hr hnd m2 f (qar o4) ?_ ?_ (.inl t3') (.inl t3)
 ·have:(KA++k::KB).eraseIdx A.length=KA++KB:=by rw[←la,List.eraseIdx_append_of_length_le (zax _)];simp
  rw[this]at t2';exact t2'
 ·subst g4;have:((A++([l,r]++B)).map fun c=>c.ptr).eraseIdx (A.length+1)=(A++([lr]++B)).map fun c=>c.ptr:=by
   rw[List.map_append,List.eraseIdx_append_of_length_le (by simp)];simp[m3]
  rw[this]at t2;exact t2
end
end Go.Proofs.Ytdiobaoelhdkoaa
namespace Go.Proofs.Ytdiobaoelhdkoaa
open Go.Vi
noncomputable section
variable {p q q2:HpP}{o N:Nat}
theorem qsv {d:Nat}{i:Int}{hk hc:Hnd}{KA KB:List qaQ}{k:qaQ}{A B:List (Tr d)}{l r:Tr d}(la:KA.length=A.length):(Tr.node i hk hc (KA++k::KB) (A++([l,r]++B))).its=pre KA (A.map fun c=>c.its)++(l.its++(.sp k::r.its++suf KB (B.map fun c=>c.its))):=by
 show qfm (KA++k::KB) ((A++l::r::B).map fun c=>c.its)=_;rw[List.map_append,zaC,qeS _ _ (by rw[zaH];exact la)];rfl
theorem qsh {k:qaQ}{L:List It}:qhI (.sp k::L)=qhI L:=rfl
theorem qou (ho:Odr N o) {b:Int}(hb:Box p b o) {d:Nat}(hd:d<N) {i:Int}{hk hc:Hnd}{KA KB:List qaQ}{k:qaQ}{A B:List (Tr d)}{l r:Tr d}(hr:Rp p (Tr.node i hk hc (KA++k::KB) (A++([l,r]++B)))) (hnd:(Tr.node i hk hc (KA++k::KB) (A++([l,r]++B))).fp.Nodup) (hord:Ord (Tr.node i hk hc (KA++k::KB) (A++([l,r]++B))))
  (la:KA.length=A.length) (lb:KB.length=B.length) (hab:∀a∈A++B,Okc o a) (fl:Fil o l) (fr:Fil o r) (l0:0<l.fill) (r0:0<r.fill) (h1:(o+1)/2≤l.fill+r.fill) (h2:l.fill+r.fill≤2*o) (hs:A.length+B.length≤1000):
  ∃q1 q2,qc6 N p ((i,0),((A.length:Int),()))=some (q1,())∧qa8 N q1 ((b,0),((i,0),((A.length:Int),())))=some (q2,())∧
   ∃t':Tr (d+1),Mov p (Tr.node i hk hc (KA++k::KB) (A++([l,r]++B))) q2 t'∧Fil o t'∧Ord t'∧t'.es=(Tr.node i hk hc (KA++k::KB) (A++([l,r]++B))).es∧A.length+B.length+1≤t'.fill∧t'.fill≤A.length+B.length+2:=by
 have h16:=ho.hi;obtain⟨⟨q1,⟨⟩⟩,e1,lr,hk',hc',m,mv⟩:=qtq ho hd hr hnd la lb fl fr l0 r0 (by omega) hs;have ord1:Ord (Tr.node i hk' hc' (KA++KB) (A++([lr]++B))):=by
  have hp:=hord.pw;have hl:=hord.kl;rw[qsv la]at hp hl;refine⟨?_,fun x hx=>?_⟩
  ·rw[qcZ la];exact m.pw _ _ hp
  ·rw[qcZ la]at hx;rcases zaf.1 hx with hx|hx
   ·exact hl x (zab _ hx)
   ·rcases zaf.1 hx with hx|hx
    ·obtain⟨y,hy,e⟩:=m.kl x hx;rw[e];rcases zaf.1 hy with hy|hy
     ·exact hl y (zaa _ (zab _ hy))
     ·exact hl y (zaa _ (zaa _ (zab _ (.tail _ hy))))
    ·exact hl x (zaa _ (zaa _ (zaa _ hx)))
 obtain⟨⟨q2,⟨⟩⟩,e2,t',s2,s3,s4,s5,s6,s7⟩:=qig ho (hb.fr mv.fr) mv.rp mv.nd ord1 la lb hab m.fil (by rw[m.fill];exact h1) (by rw[m.fill];exact h2) hs;refine⟨q1,q2,e1,e2,t',mv.trans s2,s3,s4,?_,s6,s7⟩;rw[s5,Tr.es,Tr.es,qcZ la,qsv la,qaR _ (lr.its++_),qaR lr.its,qaR _ (l.its++_),qaR l.its,List.cons_append,qsh,qaR r.its];have:=m.es;rw[Tr.es,Tr.es,Tr.es]at this;rw[this,zau]
theorem qnV (ho:Odr N o) {b:Int}(hb:Box p b o) {d:Nat}(hd:d<N) {i:Int}{hk hc:Hnd}{KA KB:List qaQ}{A B:List (Tr d)}{c:Tr d}(hr:Rp p (Tr.node i hk hc (KA++KB) (A++([c]++B)))) (hnd:(Tr.node i hk hc (KA++KB) (A++([c]++B))).fp.Nodup) (hord:Ord (Tr.node i hk hc (KA++KB) (A++([c]++B))))
  (la:KA.length=A.length) (lb:KB.length=B.length) (hab:∀a∈A++B,Okc o a) (cf:Fil o c) (c1:0<c.fill) (c2:c.fill≤o) (hs:A.length+B.length≤1000) (h1:1≤A.length+B.length):
  Ret (fun r=>∃t':Tr (d+1),Mov p (Tr.node i hk hc (KA++KB) (A++([c]++B))) r.1 t'∧Fil o t'∧Ord t'∧t'.es=(Tr.node i hk hc (KA++KB) (A++([c]++B))).es∧A.length+B.length≤t'.fill∧t'.fill≤A.length+B.length+1∧((o+1)/2≤c.fill→A.length+B.length+1≤t'.fill)) (qdb N p ((b,0),((i,0),((A.length:Int),())))):=by
 have h3:=ho.lo;have h16:=ho.hi;obtain⟨b1,b2,b3⟩:=hb.get;obtain⟨a1,a2,a3⟩:=qfe hr.1;obtain⟨k1,k2,k3⟩:=kid hr.2.2.1;have rc:Rp p c:=hr.2.2.2 c (zaa _ (.head _));have hln:(A++([c]++B)).length=A.length+B.length+1:=by simp;omega
 have slen:=hr.2.2.1.len;rw[zaH,hln]at slen;delta qdb;dsimp -zeta only;extract_lets c0 c1' c2' c3';have e0:c0=some (p,((c.fill:Int),())):=by
  show qV N p (p.g4 (p.g1 i 0).2.2.1.1 (qX (p.g1 i 0).2.2.1.2.1 (A.length:Int)),())=_;rw[a1];dsimp only;rw[k1,qi4 rc cf]
 have e1:c1'=(p,((c.fill:Int),())):=by show qy c0 _=_;rw[e0,qg]
 have e2:c2'=some (p,((((o+1)/2:Nat):Int),())):=by
  show qdM N c1'.1 ((b,0),())=_;rw[e1];simp only[qdM,b1,b2,b3,qaM,zaw,Bool.true_and];rw[qa3 (by rfl),qa2 (by omega),half _ (by omega)]
 have e3:c3'=(p,((((o+1)/2:Nat):Int),())):=by show qy c2' _=_;rw[e2,qg]
 clear_value c0 c1' c2' c3';subst e0 e1 e2 e3;refine Ret.G (by rw[a1,a2,a3,qf,qf];dsimp only;rw[k2,k3];rfl) (Ret.B (fun hle=>Ret.mk ?_) fun hle=>Ret.Rv ?_)
 ·rw[qdX]at hle;have hle:(((o+1)/2:Nat):Int)≤(c.fill:Int):=of_decide_eq_true hle;refine⟨_,Mov.refl hr hnd,⟨by simp[la,lb];omega,fun a ha=>?_⟩,hord,rfl,by show _≤(A++([c]++B)).length;omega,by show(A++([c]++B)).length≤_;omega,fun _=>by show _≤(A++([c]++B)).length;omega⟩;rcases zaf.1 ha with ha|ha
  ·exact hab a (zab _ ha)
  ·rcases zak.1 ha with rfl|ha
   ·exact⟨by omega,c2,cf⟩
   ·exact hab a (zaa _ ha)
 ·rw[qdX]at hle;have hle:¬(((o+1)/2:Nat):Int)≤(c.fill:Int):=of_decide_eq_false hle;refine Ret.G (by rw[a2,a3];rfl) (Ret.J fun y1 g1=>?_);replace g1:y1=(bif eqI (A.length:Int) (qaF .i64 (qaS (p.g1 i 0).2.2.1.2.2 (p.g1 i 0).2.2.1.2.1) 1)then qaF .i64 (A.length:Int) 1 else(A.length:Int)):=g1;rw[a1]at g1;dsimp only at g1;rw[slen,qby (by omega) (by omega),qa4]at g1;have key:∃q1 q2,qc6 N p ((i,0),(y1,()))=some (q1,())∧qa8 N q1 ((b,0),((i,0),(y1,())))=some (q2,())∧
   ∃t':Tr (d+1),Mov p (Tr.node i hk hc (KA++KB) (A++([c]++B))) q2 t'∧Fil o t'∧Ord t'∧t'.es=(Tr.node i hk hc (KA++KB) (A++([c]++B))).es∧A.length+B.length≤t'.fill∧t'.fill≤A.length+B.length+1:=by
   cases B with
   |cons r B=>
    cases KB with
    |nil=>cases lb
    |cons k KB=>
     simp only[List.length_cons]at g1 lb hs h1⊢
     rw[decide_eq_false (by omega)]at g1;have g1:y1=(A.length:Int):=g1;subst g1;have okr:=hab r (zaa _ (.head _));obtain⟨q1,q2,m1,m2,t',m3,m4,m5,m6,m7,m8⟩:=qou ho hb hd hr hnd hord la (by omega) (fun a ha=>hab a (by
      rcases zaf.1 ha with ha|ha
      ·exact zab _ ha
      ·exact zaa _ (.tail _ ha))) cf okr.2.2 c1 (by have:=okr.1;omega) (by have:=okr.1;omega) (by have:=okr.2.1;omega) (by omega)
     exact⟨q1,q2,m1,m2,t',m3,m4,m5,m6,by omega,by omega⟩
   |nil=>
    have hkb:KB=[]:=List.length_eq_zero_iff.1 lb;subst hkb;simp only[List.length_nil]at g1 hs h1⊢
    obtain⟨A',l,rfl⟩:∃A' l,A=A'++[l]:=⟨A.dropLast,A.getLast (by intro h;rw[h]at h1;simp at h1),(List.dropLast_concat_getLast _).symm⟩;obtain⟨KA',k,rfl⟩:∃A' l,KA=A'++[l]:=⟨KA.dropLast,KA.getLast (by intro h;rw[h]at la;simp at la),(List.dropLast_concat_getLast _).symm⟩;have hal:(A'++[l]).length=A'.length+1:=by simp
    have hkl:(KA'++[k]).length=KA'.length+1:=by simp
    rw[hal]at g1 hs⊢
    rw[hal,hkl]at la;rw[decide_eq_true (by omega),qby (by omega) (by omega)]at g1;have g1:y1=(A'.length:Int):=by
     have h:y1=((A'.length+1:Nat):Int)-1:=g1;omega
    subst g1;have et:Tr.node i hk hc ((KA'++[k])++[]) ((A'++[l])++([c]++[]))=Tr.node i hk hc (KA'++k::[]) (A'++([l,c]++[])):=by simp
    rw[et]at hr hnd hord⊢
    have okl:=hab l (zab _ (zaa _ (.head _)));obtain⟨q1,q2,m1,m2,t',m3,m4,m5,m6,m7,m8⟩:=qou ho hb hd hr hnd hord (by omega) rfl (fun a ha=>hab a (by
     rw[zaO]at ha;exact zab _ (zab _ ha))) okl.2.2 cf (by have:=okl.1;omega) c1 (by have:=okl.1;omega) (by have:=okl.2.1;omega) (by simp;omega)
    simp only[List.length_nil]at m7 m8;exact⟨q1,q2,m1,m2,t',m3,m4,m5,m6,by omega,by omega⟩
  obtain⟨q1,q2,m1,m2,t',m3⟩:=key;extract_lets c4;have e4:c4=some (q1,()):=m1;clear_value c4;subst e4;refine Ret.G (qf _) (Ret.Jv (Ret.Jv (Ret.Rv ?_)));rw[qg];dsimp -zeta only;extract_lets c5;have e5:c5=some (q2,()):=m2;clear_value c5;subst e5;refine Ret.G (qf _) (Ret.mk ⟨t',?_⟩);rw[qg];exact⟨m3.1,m3.2.1,m3.2.2.1,m3.2.2.2.1,m3.2.2.2.2.1,m3.2.2.2.2.2,fun h=>absurd (Int.ofNat_le.2 h) hle⟩
end
end Go.Proofs.Ytdiobaoelhdkoaa
namespace Go.Proofs.Ytdiobaoelhdkoaa
open Go.Vi
noncomputable section
variable {p q q2:HpP}{o N:Nat}
structure DelR (o:Nat) (p:HpP) {d:Nat}(t:Tr d) (v:qaQ) (q:HpP) (a:Bool) (t':Tr d):Prop where
 mov:Mov p t q t'
 fil:Fil o t'
 ord:Ord t'
 es:t'.es=qiO v t.es
 del:a=qgt v t.es
 f1:t.fill≤t'.fill+1
 f2:t'.fill≤t.fill
 nf:a=false→t.fill≤t'.fill
theorem qtp {v:qaQ}{es:List Ent}(h:Srt es):Srt (qiO v es):=by
 unfold qiO;refine zaL.2 ⟨h.filter _,h.filter _,fun a ha b hb=>?_⟩;have h1:Lt a.1 v:=by simpa using(List.mem_filter.1 ha).2
 exact h1.tr (by simpa using(List.mem_filter.1 hb).2)
theorem qol (ho:Odr N o) (b:Int) (v:qaQ): {d:Nat}→(M:Nat)→d<M→M≤N→{p:HpP}→Box p b o→(t:Tr d)→Rp p t→t.fp.Nodup→Fil o t→Ord t→t.fill≤100→(d≠0→2≤t.fill)→
  Ret (fun r=>∃t',DelR o p t v r.1 r.2.1 t') (qbt N M p ((b,0),(t.ptr,(v,()))))
 |_,0,h,_,_,_,_,_,_,_,_,_,_=>absurd h (Nat.not_lt_zero _)
 |0,M+1,_,_,p,hb,.leaf i h es,hr,hnd,hf,hord,hl,_=>by
  have hl:es.length≤100:=hl;obtain⟨a1,a2,a3⟩:=qfe hr.1;have e:=qcY (N:=N) hr hf;obtain⟨A,Mi,B,cu,se⟩:=qiz ho.n hr hord (by omega) v;show Ret _ (qbt N (Nat.succ M) p ((b,0),((i,0),(v,()))));delta qbt;dsimp -zeta only;extract_lets c0;have e0:c0=(p,(true,())):=by show qy (qr N p ((i,0),())) _=_;rw[show qr N p ((i,0),())=_ from e,qg];rfl
  clear_value c0;subst e0;refine Ret.G (by rw[show qr N p ((i,0),())=_ from e,qf]) (Ret.Jv (Ret.Jv (Ret.G rfl (Ret.Rv ?_))));dsimp -zeta only;extract_lets c1;have e1:c1=(p,((A.length:Int),(!Mi.isEmpty,()))):=by show qy (qbr N p ((i,0),(v,()))) _=_;rw[se,qg]
  clear_value c1;subst e1;refine Ret.G (by rw[se,qf]) (Ret.Jv (Ret.Jv (Ret.Jv (Ret.Jv (Ret.Rv ?_)))));dsimp -zeta only;extract_lets c2 c3;have hsl:=hr.2;have hab:es.length=A.length+(Mi.length+B.length):=by rw[cu.eq];simp
  have hg:qgt v es= !Mi.isEmpty:=by
   unfold qgt;rw[cu.get];cases Mi<;>rfl
  have hs:=qtp (v:=v) hord.en.1;have hkl:∀e∈qiO v es,e.1.length≤12:=fun e he=>hord.en.2 e (qp3 he);rcases cu.mid with hm|⟨m,hm,hmk⟩
  ·subst hm;have ede:qiO v es=es:=by rw[cu.del];have:=cu.eq;rw[zaR]at this;exact this.symm
   refine Ret.G rfl (Ret.R fun h7 e7=>Ret.mk ⟨.leaf i h es,?_,trivial,hord,by rw[qb2,ede],by rw[qb2,hg],Nat.le_succ _,zax _,fun _=>zax _⟩);have e7:h7=p:=e7;subst e7;exact Mov.refl hr hnd
  ·subst hm;have hk:A.length<es.length:=by simp at hab;omega
   obtain⟨q',h',g1,g2,g3,g4⟩:=qs9 (q:=HpP.q2) (u:=HpP.u2) (d:=zP2) (b:=32) (p:=p) (fun _ _=>rfl) (fun _ _ _=>rfl) hsl hk (by omega);have ei:qaj .i64 (A.length:Int) 1=((A.length+1:Nat):Int):=qa2 (by omega);have e2:c2=some (p.u2 q',(h',())):=by
    show qa1 N p ((p.g1 i 0).1,((A.length:Int),(qaj .i64 (A.length:Int) 1,())))=_;rw[a1,ei,dl2];exact g1
   have e3:c3=(p.u2 q',(h',())):=by show qy c2 _=_;rw[e2,qg]
   clear_value c2 c3;subst e2 e3;have r':qN (p.u2 q').q1 i=some [(h,(zH,(zH,())))]:=hr.1;obtain⟨f1,f2,_⟩:=qfe r';refine Ret.G (by rw[a2,a3,qf,f2];rfl) (Ret.R fun h7 e7=>Ret.mk ⟨.leaf i h' (qiO v es),?_,trivial,hs.its hkl,by rw[qb2,qb2],by rw[qb2,hg],?_,?_,fun h=>by cases h⟩)
   ·replace e7:h7=(p.u2 q').w1 i 0 (h',((p.u2 q').g1 i 0).2):=e7;rw[qtf r',f1]at e7;have hi:((1:Nat),i)∈(Tr.leaf i h es).fp:= .head _;have s2:Sl q' h' (qiO v es):=by
     rw[cu.del];have e:es.eraseIdx A.length=A++B:=by
      have:=cu.eq;subst this;rw[List.eraseIdx_append_of_length_le (zax _)];simp
     rw[e]at g2;exact g2
    subst e7;refine⟨⟨qar hr.1,s2⟩,rfl,⟨rfl,rfl,rfl,rfl,rfl,Up.set (qP hr.1).1 hi,qeV g4 fun x hx=>.tail _ hx,Up.refl,Up.refl⟩,fun x hx=>?_,?_⟩
    ·rcases zak.1 hx with rfl|hx
     ·exact .inl (.head _)
     ·left;unfold cell at hx;rw[g3]at hx;exact .tail _ hx
    ·show((1,i)::cell 2 h').Nodup;unfold cell;split<;>simp
   ·show es.length≤(qiO v es).length+1;rw[cu.del];simp;simp at hab;omega
   ·show(qiO v es).length≤es.length;rw[cu.del];simp;simp at hab;omega
 |d+1,M+1,hM,hMN,p,hb,.node i hk hc ks cs,hr,hnd,hf,hord,hl,h2=>by
  have hl2:cs.length≤100:=hl;have h22:2≤cs.length:=h2 (by omega);have h3:=ho.lo;have h16:=ho.hi;obtain⟨a1,a2,a3⟩:=qfe hr.1;have e:=qcY (N:=N) hr hf;obtain⟨KA,KB,A,c,B,ps,ce⟩:=qjX ho.n hr hf hord (by omega) v;obtain⟨rfl,rfl,la,bd⟩:=ps;have lb:KB.length=B.length:=by have:(A++c::B).length=(KA++KB).length+1:=hf.1;simp[la]at this;omega
  have hab:A.length+B.length+1≤100:=by simp at hl2;omega
  have hab2:2≤A.length+B.length+1:=by simp at h22;omega
  have okc:Okc o c:=hf.2 c (zaa _ (.head _));have rc:Rp p c:=hr.2.2.2 c (zaa _ (.head _));obtain⟨k1,k2,k3⟩:=kid hr.2.2.1;have oc:Ord c:=by
   have h1:=hord.pw;have h2:=hord.kl;have e:(Tr.node i hk hc (KA++KB) (A++c::B)).its=_:=qcZ (c:=c) la;rw[e]at h1 h2;exact⟨(zaL.1 (zaL.1 h1).2.1).1,fun x hx=>h2 x (zaa _ (zab _ hx))⟩
  obtain⟨⟨p1,ad,⟨⟩⟩,i1,c',i2⟩:=qol ho b v M (by omega) (by omega) hb c rc (quK hnd) okc.2.2 oc (by have:=okc.2.1;omega) (fun _=>by have:=okc.1;omega);dsimp only at i2;show Ret _ (qbt N (Nat.succ M) p ((b,0),((i,0),(v,()))));delta qbt;dsimp -zeta only;extract_lets c0;have e0:c0=(p,(false,())):=by show qy (qr N p ((i,0),())) _=_;rw[show qr N p ((i,0),())=_ from e,qg];rfl
  clear_value c0;subst e0;refine Ret.G (by rw[show qr N p ((i,0),())=_ from e,qf]) (Ret.Jv (Ret.Jv (Ret.F rfl (Ret.Rv ?_))));dsimp -zeta only;extract_lets c7 c8;have e7:c7=some (p,((A.length:Int),())):=ce;have e8:c8=(p,((A.length:Int),())):=by show qy c7 _=_;rw[e7,qg]
  clear_value c7 c8;subst e7 e8;refine Ret.G (qf _) (Ret.Jv (Ret.Jv (Ret.Jv (Ret.Rv ?_))));dsimp -zeta only;extract_lets c9 c10;have e9:c9=some (p1,(ad,())):=by
   show qbt N M p ((b,0),(p.g4 (p.g1 i 0).2.2.1.1 (qX (p.g1 i 0).2.2.1.2.1 (A.length:Int)),(v,())))=_;rw[a1];dsimp only;rw[k1];exact i1
  have e10:c10=(p1,(ad,())):=by show qy c9 _=_;rw[e9,qg]
  clear_value c9 c10;subst e9 e10;refine Ret.G (by rw[a1,a2,a3,qf];dsimp only;rw[k2,k3];rfl) (Ret.Jv (Ret.Jv (Ret.Jv (Ret.Rv ?_))));dsimp -zeta only;have ms:=i2.mov.one;obtain⟨d1,d3,d4⟩:=qmP hr hnd ms.fr;have ptr:c'.ptr=c.ptr:=by show(c'.id,(0:Int))=(c.id,0);rw[i2.mov.id]
  have mv:Mov p (Tr.node i hk hc (KA++KB) (A++([c]++B))) p1 (Tr.node i hk hc (KA++KB) (A++([c']++B))):=reb hr hnd ms Fr.refl d1 d3 (by
   have:(A++([c']++B)).map (fun c=>c.ptr)=(A++([c]++B)).map fun c=>c.ptr:=by simp[ptr]
   rw[this];exact d4) (.inl rfl) (.inl rfl)
  have hin:∀e∈c'.es,Bd e (pre KA (A.map fun c=>c.its)) (suf KB (B.map fun c=>c.its)):=fun e he=>by
   rw[i2.es]at he;have h1:=hord.pw;rw[show(Tr.node i hk hc (KA++KB) (A++c::B)).its=_ from qcZ (c:=c) la]at h1;exact bd_of h1 (qp3 he)
  have f1:=i2.f1;have f2:=i2.f2;have ord1:Ord (Tr.node i hk hc (KA++KB) (A++([c']++B))):=qrO (d':=d) la hord i2.ord (c'.cap (by omega) i2.fil (by have:=okc.1;omega)) hin;obtain⟨⟨p2,⟨⟩⟩,s1,t',s2,s3,s4,s5,s6,s7,s8⟩:=qnV ho (hb.fr i2.mov.fr) (by omega) mv.rp mv.nd ord1 la lb (fun a ha=>hf.2 a (by
   rcases zaf.1 ha with ha|ha
   ·exact zab _ ha
   ·exact zaa _ (.tail _ ha))) i2.fil (by have:=okc.1;omega) (by have:=okc.2.1;omega) (by omega) (by omega)
  extract_lets c11;have e11:c11=some (p2,()):=s1;clear_value c11;subst e11;refine Ret.G (qf _) (Ret.Jv (Ret.Jv (Ret.Rv (Ret.mk ⟨t',?_⟩))));rw[qg];have ee:=bdlt (bd 0);have e1:(Tr.node i hk hc (KA++KB) (A++c::B)).es=qhI (pre KA (A.map fun c=>c.its))++(c.es++qhI (suf KB (B.map fun c=>c.its))):=by
   rw[Tr.es,show(Tr.node i hk hc (KA++KB) (A++c::B)).its=_ from qcZ (c:=c) la,qaR,qaR]
  have e2:(Tr.node i hk hc (KA++KB) (A++([c']++B))).es=qhI (pre KA (A.map fun c=>c.its))++(c'.es++qhI (suf KB (B.map fun c=>c.its))):=by
   rw[Tr.es,qcZ la,qaR,qaR]
  refine⟨mv.trans s2,s3,s4,?_,?_,?_,?_,fun h=>?_⟩
  ·rw[s5,e2,i2.es,e1,quk ee.1 ee.2]
  ·rw[qgt,e1,qjZ ee.1 ee.2];exact i2.del
  ·show(A++c::B).length≤_;simp;omega
  ·show _≤(A++c::B).length;simp;omega
  ·show(A++c::B).length≤_;have:=i2.nf h;have:=s8 (by have:=okc.1;omega);simp;omega
end
end Go.Proofs.Ytdiobaoelhdkoaa
namespace Go.Proofs.Ytdiobaoelhdkoaa
open Go.Vi
noncomputable section
variable {p:HpP}{N:Nat}
theorem qiC {v:qaQ}{e:Ent}{es:List Ent}:qj v (e::es)=open Classical in if e.1=v then some e.2.1 else qj v es:=by
 unfold qj;rw[List.find?_cons];by_cases h:e.1=v
 ·simp[h]
 ·simp[h]
structure Mp (p:HpP) (a:Int) (h:Hnd) (m:List Ent):Prop where
 box:qN p.q7 a=some [h]
 sl:Sl p.q2 h m
theorem Mp.get {a:Int}{h:Hnd}{m:List Ent}(s:Mp p a h m):p.g7 a 0=h∧p.s7 a=true∧leI 0 a=true:=by
 refine⟨?_,?_,leT (qP s.box).1⟩
 ·show qJ (qy (qN p.q7 a) _) 0 _=_;rw[s.box,qg,qlS]
 ·show qp (qN p.q7 a)=_;rw[s.box,qf]
theorem qjc (hN:Nb N) {a b:qaQ}(h:a.length≤12):qC N (a,(b,()))=some ((qai a b,()),()):=qkR N a b (by have:=hN.lo;omega) hN.hi
theorem eq0 (a b:qaQ):eqI (qai a b) 0=open Classical in decide (a=b):=by
 rw[qa4];exact decide_eq_decide.2 (qha a b)
theorem qvh (hN:Nb N) {h:Hnd}{m:List Ent}(s:Sl p.q2 h m) (v:qaQ) (hk:∀e∈m,e.1.length≤12) (hl:m.length≤1000):
  qbS N p (h,(v,()))=some (p,((qj v m).getD 0,(qgt v m,()))):=by
 have hn:=hN.lo;have:Ret (fun r=>r=(p,((qj v m).getD 0,(qgt v m,())))) (qbS N p (h,(v,()))):=by
  delta qbS;refine Ret.it (fun k (s:Int×Unit)=>∃i:Nat,s=((i:Int),())∧i+k=m.length∧qj v (m.drop i)=qj v m) (m:=m.length) ⟨0,rfl,by omega,by rw[zaN]⟩ (by omega) fun k s' ih _ hI hih=>?_;obtain⟨i,rfl,hi,hg⟩:=hI;dsimp -zeta only;extract_lets c0;have hlen:=s.len;by_cases hk0:k=0
  ·subst hk0;rw[zaI (by omega)]at hg;refine Ret.F (by rw[hlen,qan];exact decide_eq_false (by omega)) (Ret.mk ?_);rw[qgt,←hg];rfl
  ·have hi2:i<m.length:=by omega
   have g:=s.get hi2 zP2 [];have e0:c0=some ((qai m[i].1 v,()),()):=by
    show qC N ((qJ (qy (qN p.q2 h.1) []) (qX h.2.1 (i:Int)) zP2).1,(v,()))=_;rw[g];exact qjc hN (hk _ (List.getElem_mem hi2))
   clear_value c0;subst e0;rw[qd1 hi2,qiC]at hg;refine Ret.G (by rw[hlen,qan];exact decide_eq_true (by omega)) (Ret.G (by rw[hlen,qbG,show p.s2 h.1=true from(s.alive hi2).1];simp;omega) (Ret.G (qf _) (Ret.Jv (Ret.B (fun hc=>Ret.mk ?_) fun hc=>?_))))
   ·rw[qg,eq0]at hc;have hc:=of_decide_eq_true hc;rw[if_pos hc]at hg;show(p,((qJ (qy (qN p.q2 h.1) []) (qX h.2.1 (i:Int)) zP2).2.1,(true,())))=_;rw[g,qgt,←hg];rfl
   ·rw[qg,eq0]at hc;have hc:=of_decide_eq_false hc;rw[if_neg hc]at hg;rw[qa2 (by omega)];exact hih (k-1) _ (by omega) ⟨i+1,rfl,by omega,hg⟩
 obtain⟨r,e,rfl⟩:=this;exact e
def que (ys:List Ent) (i j:Int):Option Bool:=if 0≤i∧i<(ys.length:Int)∧0≤j∧j<(ys.length:Int)∧∀e∈ys,e.1.length≤12 then some (decide (qai (qJ ys i zP2).1 (qJ ys j zP2).1<0))else none
abbrev psiE:(Ent×(Ent×Unit))→Option (Int×Unit):=fun x=>some (qai x.1.1 x.2.1.1,())
theorem cmpE:Cmp (fun e:Ent=>e.1.length≤12) psiE (fun a b=>¬Lt b.1 a.1) where
 ans a b _ _:=⟨qai a.1 b.1,rfl,by simp[Lt]⟩
 tot a b _ _:=by
  by_cases h:Lt b.1 a.1
  ·exact .inr h.asy
  ·exact .inl h
 trans a b c _ _ _ h1 h2 h3:=by
  rcases Lt.tri b.1 a.1 with q|q|q
  ·exact h1 q
  ·rw[←q]at h3;exact h2 h3
  ·exact h2 (h3.tr q)
theorem qpZ: {l m:List Ent}→l.Perm m→Srt l→Srt m→l=m
 |[],m,h,_,_=>by rw[h.symm.eq_nil]
 |a::l,[],h,_,_=>by have:=h.eq_nil;cases this
 |a::l,b::m,h,h1,h2=>by
  obtain⟨h3,h4⟩:=List.pairwise_cons.1 h1;obtain⟨h5,h6⟩:=List.pairwise_cons.1 h2;have hab:a=b:=by
   rcases zak.1 (h.subset (.head _))with q|q
   ·exact q
   ·rcases zak.1 (h.symm.subset (.head _))with q2|q2
    ·exact q2.symm
    ·exact absurd ((h3 b q2).tr (h5 a q)) Lt.irr
  subst hab;rw[qpZ (h.cons_inv) h4 h6]
theorem qj6 {v:qaQ}: {m:List Ent}→Srt m→qj v m=none→qiO v m=m
 |[],_,_=>rfl
 |e::m,hs,hn=>by
  obtain⟨h1,h2⟩:=List.pairwise_cons.1 hs;rw[qiC]at hn;split at hn
  ·cases hn
  rename_i hx;have ih:=qj6 h2 hn;unfold qiO at ih⊢
  rcases Lt.tri e.1 v with q|q|q
  ·have e1:loE v (e::m)=e::loE v m:=by unfold loE;rw[List.filter_cons_of_pos (by simpa using q)]
   have e2:hiE v (e::m)=hiE v m:=by unfold hiE;rw[List.filter_cons_of_neg (by simpa using q.asy)]
   rw[e1,e2,List.cons_append,ih]
  ·exact absurd q hx
  ·have e1:loE v (e::m)=[]:=qqg fun a ha=>by
    rcases zak.1 ha with rfl|ha
    ·exact q.asy
    ·exact(q.tr (h1 a ha)).asy
   have e2:hiE v (e::m)=e::m:=qm3 fun a ha=>by
    rcases zak.1 ha with rfl|ha
    ·exact q
    ·exact q.tr (h1 a ha)
   rw[e1,e2];rfl
theorem qsp {v:qaQ}{m:List Ent}(hs:Srt m) {i:Nat}(hi:i<m.length) (hc:m[i].1=v):Cut (fun e:Ent=>e.1) v m (m.take i) [m[i]] (m.drop (i+1)):=by
 refine⟨by rw[List.singleton_append,←zaB hi,zay],fun e he=>?_,fun e he=>?_,.inr ⟨_,rfl,hc⟩⟩
 ·obtain⟨j,hj,rfl⟩:=List.getElem_of_mem he;rw[zae]at hj;rw[List.getElem_take,←hc];exact List.pairwise_iff_getElem.1 hs j i (by omega) hi (by omega)
 ·obtain⟨j,hj,rfl⟩:=List.getElem_of_mem he;rw[zal]at hj;rw[List.getElem_drop,←hc];exact List.pairwise_iff_getElem.1 hs i (i+1+j) hi (by omega) (by omega)
theorem qvT (hN:Nb N) {v:qaQ}{w:Int}{m:List Ent}(hs:Srt m) (hk:∀e∈m,e.1.length≤12) (hv:v.length≤12) (hn:qj v m=none) (hl:m.length≤1000):
  qnY N ((m++[(v,(w,()))],que),(((m.length+1:Nat):Int),()))=some ((),(qhu v w m,())):=by
 have h0:=hN.lo;have hall:∀e∈m++[(v,(w,()))],e.1.length≤12:=fun e he=>by
  rcases zaf.1 he with he|he
  ·exact hk e he
  ·rw[zah.1 he];exact hv
 have hal:qmd (fun e:Ent=>e.1.length≤12) (m.length+1) zP2 que psiE:=fun ys hy i j i0 i1 j0 j1=>⟨_,if_pos ⟨i0,by rw[hy.len];exact i1,j0,by rw[hy.len];exact j1,hy.all⟩,rfl⟩;obtain⟨out,o1,o2,o3⟩:=qrm zP2 hal cmpE (n:=m.length+1) (N:=N) (by omega) (by omega) (ys:=m++[(v,(w,()))]) ⟨by simp,hall⟩;rw[o1];have hm:m=loE v m++hiE v m:=(qj6 hs hn).symm;have hperm:(qhu v w m).Perm (m++[(v,(w,()))]):=by
  conv=>rhs;rw[hm]
  unfold qhu;refine List.perm_middle.trans ?_;exact List.perm_append_comm (l₁:=[(v,(w,()))]) (l₂:=loE v m++hiE v m)
 have hnd:out.Pairwise fun a b=>a.1≠b.1:=by
  have:(qhu v w m).Pairwise fun a b=>a.1≠b.1:=(qnn hs).imp fun h e=>by rw[e]at h;exact Lt.irr h
  exact((o2.perm.trans hperm.symm).pairwise_iff (fun h=>h.symm)).2 this
 have ho:Srt out:=by
  have hol:out.length=m.length+1:=by rw[o2.perm.length_eq];simp
  refine List.pairwise_iff_getElem.2 fun i j hi hj hij=>?_;have h:=o3 i j (by omega) (by omega) (by omega);rw[qb0 _ hi,qb0 _ hj]at h;have hne:=List.pairwise_iff_getElem.1 hnd i j hi hj hij;rcases Lt.tri out[i].1 out[j].1 with q|q|q
  ·exact q
  ·exact absurd q hne
  ·exact absurd q h
 rw[qpZ (o2.perm.trans hperm.symm) ho (qnn hs)]
end
end Go.Proofs.Ytdiobaoelhdkoaa
namespace Go.Proofs.Ytdiobaoelhdkoaa
open Go.Vi
noncomputable section
variable {p q:HpP}{N:Nat}
theorem qvD (hN:100<N) (p:HpP) (φ) (ψ):qaU N p ((φ,ψ),(1,()))=some (p,()):=by
 obtain⟨M,rfl⟩:∃M,N=M+1:=⟨N-1,by omega⟩;have hins:qap (M+1) p ((φ,ψ),(0,(1,())))=some (p,()):=by
  delta qap;rw[qd8];have e:qaj .i64 0 1=1:=by rw[qbK (by omega) (by omega)];omega
  simp only[e];rw[qa7 (ltF (by omega))]
 delta qaU;rw[qd8];simp only;rw[qa7 (leF (by omega))];simp only[hins,qf,qg,cond_true];rw[qd8];simp only;rw[qa7 (ltF (by omega))]
structure MpR (p q:HpP) (a:Int) (h h':Hnd) (m:List Ent):Prop where
 mp:Mp q a h' m
 id:h'.1=h.1∨qn p.q2≤h'.1
 k2:Up (fun j=>j=h.1) p.q2 q.q2
 q0:q.q0=p.q0
 q1:q.q1=p.q1
 q3:q.q3=p.q3
 q4:q.q4=p.q4
 q5:q.q5=p.q5
 q6:q.q6=p.q6
theorem row8 {i:Int}{a:Int×Int}(h:qN p.q8 i=some [a]):p.g8 i 0=a∧p.s8 i=true:=by
 refine⟨?_,?_⟩
 ·show qJ (qy (qN p.q8 i) _) 0 _=_;rw[h,qg,qlS]
 ·show qp (qN p.q8 i)=_;rw[h,qf]
theorem qvo (hN:Nb N) {p0:HpP}{a n:Int}{h:Hnd}(hb:qN p0.q7 a=some [h]) (h8:qN p0.q8 n=some [(a,0)]):LA p0 h (fun p4=>(fun x5=>(qbV N p4 (x5.1,(x5.2.1,((n,0),())))))) que:=by
 intro p ys i j c hst hl;obtain⟨q',rfl,s1,_,_⟩:=hst;unfold que at hl;split at hl;case isFalse=>cases hl
 rename_i hc;injection hl with hl;obtain⟨i0,i1,j0,j1,hk⟩:=hc;obtain⟨i,rfl⟩:=Int.eq_ofNat_of_zero_le i0;obtain⟨j,rfl⟩:=Int.eq_ofNat_of_zero_le j0;have hi:i<ys.length:=by omega
 have hj:j<ys.length:=by omega
 obtain⟨g1,g2⟩:=row8 (p:=p0.u2 q') (i:=n) (a:=(a,0)) h8;have mp:Mp (p0.u2 q') a h ys:=⟨hb,s1⟩;obtain⟨m1,m2,m3⟩:=mp.get;have e1:(p0.u2 q').g2 h.1 (qX h.2.1 (i:Int))=ys[i]:=s1.get hi _ _;have e2:(p0.u2 q').g2 h.1 (qX h.2.1 (j:Int))=ys[j]:=s1.get hj _ _;obtain⟨w1,w2,_⟩:=s1.alive hi;simp only[qbV,g1,g2,m1,m2,m3,e1,e2,s1.len,w2,show(p0.u2 q').s2 h.1=true from w1,qjc hN (hk _ (List.getElem_mem hi)),qf,qg,zaw,Bool.true_and,Bool.and_true];rw[qa3 (by rw[qbG,qbG];simp;omega)];rw[←hl,qb0 _ hi,qb0 _ hj,qan]
theorem qvr (hN:Nb N) {a:Int}{h:Hnd}{m:List Ent}(s:Mp p a h m) (hs:Srt m) (hk:∀e∈m,e.1.length≤12) (hl:m.length≤900) (v:qaQ) (w:Int) (hv:v.length≤12):
  Ret (fun r=>(∃h',MpR p r.1 a h h' (qhu v w m))∧r.2.1= !qgt v m) (qdo N p ((a,0),(v,(w,())))):=by
 have hn:=hN.lo;delta qdo;refine Ret.R fun h0 e0=>?_;replace e0:h0=p.u8 (qdc p.q8 [(a,0)]):=e0;have h8:qN h0.q8 (qn p.q8)=some [(a,0)]:=by rw[e0];exact qc7
 have s0:Mp h0 a h m:=by rw[e0];exact⟨s.box,s.sl⟩
 obtain⟨g1,g2⟩:=row8 h8;obtain⟨m1,m2,m3⟩:=s0.get;dsimp -zeta only;extract_lets c0 c1;have ec0:c0=h:=by show h0.g7 (h0.g8 (qn p.q8) 0).1 (h0.g8 (qn p.q8) 0).2=_;rw[g1];exact m1
 have ec1:c1=(m.length:Int):=by show qaS c0.2.2 c0.2.1=_;rw[ec0];exact s0.sl.len
 clear_value c0 c1;subst ec0 ec1;refine Ret.G (by rw[g1,g2];dsimp only;rw[m2,m3];rfl) ?_;refine Ret.it (fun k (s:HpP×(Int×Unit))=>∃i:Nat,s=(h0,((i:Int),()))∧i+k=m.length∧qj v (m.drop i)=qj v m∧∀e∈m.take i,e.1≠v) (m:=m.length) ⟨0,rfl,by omega,by rw[zaN],by simp⟩ (by omega) fun k s' ih _ hI hih=>?_;obtain⟨i,rfl,hi,hg,hno⟩:=hI;dsimp -zeta only;extract_lets c2 c3 c4 c5 c6 c7;have e3:c3=c0:=by show h0.g7 (h0.g8 (qn p.q8) 0).1 (h0.g8 (qn p.q8) 0).2=_;rw[g1];exact m1
 obtain⟨q',h',u1,u2,u3,u4,_⟩:=s0.sl.app [(v,(w,()))];have e6:c6=some (q',h'):=by show qfF h0.q2 c3 _=_;rw[e3];exact u1
 have e7:c7=(q',h'):=by show qy c6 _=_;rw[e6,qg]
 by_cases hk0:k=0
 ·subst hk0;have him:i=m.length:=by omega
  subst him;rw[List.drop_length]at hg;have hnone:qj v m=none:=hg.symm;have hroom:=qf0 s0.sl [(v,(w,()))] (b:=32) (by simp;omega);clear_value c2 c3 c4 c5 c6 c7;subst e3 e6 e7;refine Ret.F (by rw[qan];exact decide_eq_false (by omega)) (Ret.G (by
   rw[g1,g2];dsimp only;rw[m2,m3,qf,qcz,hroom.1,hroom.2];rfl) (Ret.R fun h3 g3=>?_))
  rw[g1]at g3;dsimp only at g3;replace g3:h3=(h0.u2 q').u7 (qdD h0.q7 a (qdz (qy (qN h0.q7 a) []) 0 h')):=g3;rw[s0.box,qg,qlL]at g3;have b3:qN h3.q7 a=some [h']:=by rw[g3];exact qar s0.box
  have h83:qN h3.q8 (qn p.q8)=some [(a,0)]:=by rw[g3];exact h8
  have s3:Mp h3 a h' (m++[(v,(w,()))]):=⟨b3,by rw[g3];exact u2⟩;obtain⟨g13,g23⟩:=row8 h83;obtain⟨m13,m23,m33⟩:=s3.get;have hlen:h'.2.2=((m.length+1:Nat):Int):=by rw[s3.sl.hi];simp
  have key:∃h4,qbP N h3 (h',((fun p4=>(fun x5=>(qbV N p4 (x5.1,(x5.2.1,(((qn p.q8),0),())))))),()))=some (h4,())∧St h3 h' h4 (qhu v w m):=by
   delta qbP;dsimp only;rw[if_pos ⟨s3.sl.lo,by omega⟩];by_cases hm1:h'.2.2≤1
   ·rw[if_pos hm1];have hm0:m.length=0:=by omega
    have hm0:m=[]:=List.length_eq_zero_iff.1 hm0;rw[hlen,hm0];refine⟨h3,qvD (by omega) h3 _ _,h3.q2,rfl,?_,rfl,fun _ _=>rfl⟩;have:=s3.sl;rw[hm0]at this;exact this
   ·rw[if_neg hm1,hlen];have hf:=qvm (N:=N) (qvo hN b3 h83) (p:=h3) (ys:=m++[(v,(w,()))]) ⟨h3.q2,rfl,s3.sl,rfl,fun _ _=>rfl⟩ ((m.length+1:Nat):Int);obtain⟨⟨h4,⟨⟩⟩,r1,r2⟩:=hf _ (qvT hN hs hk hv hnone (by omega));exact⟨h4,r1,r2⟩
  obtain⟨h4,k1,q4',k2,k3,k4,k5⟩:=key;extract_lets c8;have e8:c8=some (h4,()):=by
   show qbP N h3 (h3.g7 (h3.g8 (qn p.q8) 0).1 (h3.g8 (qn p.q8) 0).2,_)=_;rw[g13];dsimp only;rw[m13];exact k1
  clear_value c8;subst e8;refine Ret.G (by rw[g13,g23];dsimp only;rw[m23,m33,qf];rfl) (Ret.R fun h5 e5=>Ret.mk ⟨⟨h',?_⟩,by rw[qgt,hnone];rfl⟩);rw[qg]at e5;have e5:h5=h4:=e5;subst e5;subst k2 g3 e0;refine⟨⟨b3,k3⟩,u3,⟨fun j hj r hr=>?_,Int.le_trans u4.ln (Int.le_of_eq k4.symm)⟩,rfl,rfl,rfl,rfl,rfl,rfl⟩;have hr2:=u4.kp j hj r hr;have hjl:=(qP hr).2;have:=k5 j (by
   intro e;rcases u3 with h|h
   ·exact hj (e.trans h)
   ·have h:qn p.q2≤h'.1:=h;omega)
  exact this.trans hr2
 ·have hi2:i<m.length:=by omega
  have g:=s0.sl.get hi2 zP2 [];obtain⟨w1,w2,w3⟩:=s0.sl.alive hi2;have e2:c2=some ((qai m[i].1 v,()),()):=by
   show qC N ((qJ (qy (qN h0.q2 c0.1) []) (qX c0.2.1 (i:Int)) zP2).1,(v,()))=_;rw[g];exact qjc hN (hk _ (List.getElem_mem hi2))
  have e5:c5=m[i]:=by show h0.g2 c3.1 (qX c3.2.1 (i:Int))=_;rw[e3];exact g
  have e4:c4=qX c0.2.1 (i:Int):=by show qX c3.2.1 (i:Int)=_;rw[e3]
  clear_value c2 c3 c4 c5 c6 c7;subst e2 e3 e4 e5;rw[qd1 hi2,qiC]at hg;refine Ret.G (by rw[qan];exact decide_eq_true (by omega)) (Ret.G (by rw[qbG,show h0.s2 c3.1=true from w1];simp;omega) (Ret.G (qf _) (Ret.Jv (Ret.B (fun hc=>?_) fun hc=>?_))))
  ·rw[qg,eq0]at hc;have hc:m[i].1=v:=of_decide_eq_true hc;rw[if_pos hc]at hg;refine Ret.G (by
    rw[g1,g2];dsimp only;rw[m2,m3,w2,show h0.s2 c3.1=true from w1,s0.sl.len,qbG];simp;omega) (Ret.R fun h4 g4=>Ret.mk ⟨⟨c3,?_⟩,by rw[qgt,←hg];rfl⟩)
   have e:m.set i (m[i].1,(w,()))=qhu v w m:=by
    have cu:=qsp hs hi2 hc;rw[cu.put w,List.set_eq_take_append_cons_drop,if_pos hi2,hc]
   have qdD:=s0.sl.set hi2 (m[i].1,(w,())) [];rw[e]at qdD;replace g4:h4=h0.w2 c3.1 (qX c3.2.1 (i:Int)) (m[i].1,(w,())):=g4;subst g4 e0;exact⟨⟨s.box,qdD⟩,.inl rfl,Up.set w3 rfl,rfl,rfl,rfl,rfl,rfl,rfl⟩
  ·rw[qg,eq0]at hc;have hc:=of_decide_eq_false hc;rw[if_neg hc]at hg;rw[qa2 (by omega)];refine hih (k-1) _ (by omega) ⟨i+1,rfl,by omega,hg,fun e he=>?_⟩;rw[qkz hi2]at he;rcases zaf.1 he with he|he
   ·exact hno e he
   ·rw[zah.1 he];exact hc
theorem qvk (hN:Nb N) {a:Int}{h:Hnd}{m:List Ent}(s:Mp p a h m) (hs:Srt m) (hk:∀e∈m,e.1.length≤12) (hl:m.length≤900) (v:qaQ):
  Ret (fun r=>(∃h',MpR p r.1 a h h' (qiO v m))∧r.2.1=qgt v m) (qcn N p ((a,0),(v,()))):=by
 have hn:=hN.lo;obtain⟨m1,m2,m3⟩:=s.get;have hlen:=s.sl.len;delta qcn;dsimp -zeta only;extract_lets c0 c1;have e0:c0=(m.length:Int):=by show qaS (p.g7 a 0).2.2 (p.g7 a 0).2.1=_;rw[m1];exact hlen
 clear_value c0;subst e0;refine Ret.G (by rw[m2,m3];rfl) ?_;refine Ret.it (fun k (s:HpP×(Int×Unit))=>∃i:Nat,s=(p,((i:Int),()))∧i+k=m.length∧qj v (m.drop i)=qj v m) (m:=m.length) ⟨0,rfl,by omega,by rw[zaN]⟩ (by omega) fun k s' ih _ hI hih=>?_;obtain⟨i,rfl,hi,hg⟩:=hI;dsimp -zeta only;extract_lets c2 c3 c4 c5 c6 c7 c8 c9 c10 c11 c12;by_cases hk0:k=0
 ·subst hk0;have him:i=m.length:=by omega
  subst him;rw[List.drop_length]at hg;have hnone:qj v m=none:=hg.symm;refine Ret.F (by rw[qan];exact decide_eq_false (by omega)) (Ret.mk ⟨⟨h,?_⟩,by rw[qgt,hnone];rfl⟩);rw[qj6 hs hnone];exact⟨s,.inl rfl,Up.refl,rfl,rfl,rfl,rfl,rfl,rfl⟩
 ·have hi2:i<m.length:=by omega
  have g:=s.sl.get hi2 zP2 [];obtain⟨w1,w2,w3⟩:=s.sl.alive hi2;rw[qd1 hi2,qiC]at hg;obtain⟨qa,ha,u1,u2,u3,u4,_⟩:=(Sl.new (q:=p.q2) (xs:=[])).app (m.take i);have fra:qn p.q2≤ha.1:=by
   rw[qfx]at u3;rcases u3 with h|h
   ·rw[h];exact zaF _
   ·omega
  have sa:Sl qa h m:=s.sl.add.kp u4.kp fun _ e=>by have:=s.sl.lt;have e:h.1=qn p.q2:=e;omega
  rw[zaR]at u2;obtain⟨qb,hb,v1,v2,v3,v4,_⟩:=u2.app (m.drop (i+1));have e2:c2=some ((qai m[i].1 v,()),()):=by
   show qC N ((p.g2 (p.g7 a 0).1 (qX (p.g7 a 0).2.1 (i:Int))).1,(v,()))=_;rw[m1,show p.g2 h.1 (qX h.2.1 (i:Int))=m[i]from g];exact qjc hN (hk _ (List.getElem_mem hi2))
  have e3:c3=(m.length:Int):=by show qaS (p.g7 a 0).2.2 (p.g7 a 0).2.1=_;rw[m1];exact hlen
  have e5:c5=some (m.take i):=by
   show qcJ (qdc p.q2 []) ((p.g7 a 0).1,(qX (p.g7 a 0).2.1 0,qX (p.g7 a 0).2.1 (i:Int)))=_;rw[m1,s.sl.lo,qbp,show qX 0 0=((0:Nat):Int)from by rw[qed];rfl,(Sl.add (r':=[]) s.sl).part (by omega),zaN]
  have e6:c6=m.take i:=by show qy c5 _=_;rw[e5,qg]
  have e7:c7=some (qa,ha):=by show qfF (qdc p.q2 []) (qn p.q2,(0,qn [])) c6=_;rw[e6];exact u1
  have e8:c8=(qa,ha):=by show qy c7 _=_;rw[e7,qg]
  have ei:qaj .i64 (i:Int) 1=((i+1:Nat):Int):=qa2 (by omega);have e9:c9=some (m.drop (i+1)):=by
   show qcJ c8.1 ((p.g7 a 0).1,(qX (p.g7 a 0).2.1 (qaj .i64 (i:Int) 1),qX (p.g7 a 0).2.1 c3))=_;rw[e8,e3,m1,ei,s.sl.lo,qbp,qbp,sa.part (zax _),List.take_length]
  have e10:c10=m.drop (i+1):=by show qy c9 _=_;rw[e9,qg]
  have e11:c11=some (qb,hb):=by show qfF c8.1 c8.2 c10=_;rw[e8,e10];exact v1
  have e12:c12=(qb,hb):=by show qy c11 _=_;rw[e11,qg]
  have hr1:=qf0 (Sl.new (q:=p.q2) (xs:=([]:List Ent))) (m.take i) (b:=32) (by simp;omega);have hr2:=qf0 u2 (m.drop (i+1)) (b:=32) (by simp;omega);have hr1:qc1 (qn ([]:List Ent)) (qn (m.take i)) 32=true:=hr1.2;clear_value c2 c3 c5 c6 c7 c8 c9 c10 c11 c12;subst e2 e3 e5 e6 e7 e8 e9 e10 e11 e12;refine Ret.G (by rw[qan];exact decide_eq_true (by omega)) (Ret.G (by rw[qbG,m1,show p.s2 h.1=true from w1];simp;omega) (Ret.G (qf _) (Ret.Jv (Ret.B (fun hc=>?_) fun hc=>?_))))
  ·rw[qg,eq0]at hc;have hc:m[i].1=v:=of_decide_eq_true hc;rw[if_pos hc]at hg;have h00:leI 0 0=true:=leT (by omega);refine Ret.G (by
    rw[m2,m3,qf,qf,qf,qf,qdv,qdv,ei,qcz,hr2.1,hr2.2,h00,show qc1 c1 (qn (m.take i)) 32=true from hr1];simp;omega) (Ret.R fun h4 g4=>Ret.mk ⟨⟨hb,?_⟩,by rw[qgt,←hg];rfl⟩)
   rw[s.box,qg,qlL]at g4;replace g4:h4=(p.u2 qb).u7 (qdD p.q7 a [hb]):=g4;subst g4;have e:m.take i++m.drop (i+1)=qiO v m:=(qsp hs hi2 hc).del.symm;rw[e]at v2;have hla:qn p.q2≤qn qa:=by have:=u4.ln;rw[qfx]at this;omega
   refine⟨⟨qar s.box,v2⟩,.inr ?_,⟨fun j hj r hr=>?_,Int.le_trans hla v4.ln⟩,rfl,rfl,rfl,rfl,rfl,rfl⟩
   ·rcases v3 with h|h
    ·rw[h];exact fra
    ·omega
   ·have hjl:=(qP hr).2;exact v4.kp j (by show ¬j=ha.1;omega) r (u4.kp j (by show ¬j=qn p.q2;omega) r (qeh hr))
  ·rw[qg,eq0]at hc;have hc:=of_decide_eq_false hc;rw[if_neg hc]at hg;rw[ei];exact hih (k-1) _ (by omega) ⟨i+1,rfl,by omega,hg⟩
end
end Go.Proofs.Ytdiobaoelhdkoaa
namespace Go.Proofs.Ytdiobaoelhdkoaa
open Go.Vi
noncomputable section
variable {p q:HpP}{N o:Nat}
theorem qpC {v:qaQ}{w:Int}{m:List Ent}(hs:Srt m):(qhu v w m).length=m.length+if qgt v m then 0 else 1:=by
 cases hg:qj v m with
 |none=>
  have h:=qj6 hs hg;rw[qgt,hg];have:(qhu v w m).length=(qiO v m).length+1:=by simp[qhu,qiO];omega
  rw[this,h];rfl
 |some x=>
  have:∃e∈m,e.1=v:=by
   unfold qj at hg;cases hf:m.find? (fun e=>open Classical in decide (e.1=v))with
   |none=>rw[hf]at hg;cases hg
   |some e=>exact⟨e,List.mem_of_find?_eq_some hf,by simpa using List.find?_some hf⟩
  obtain⟨e,he,hev⟩:=this;obtain⟨i,hi,rfl⟩:=List.getElem_of_mem he;rw[qgt,hg,(qsp hs hi hev).put w];simp;omega
theorem qsf {v:qaQ}{m:List Ent}(hs:Srt m):(qiO v m).length+(if qgt v m then 1 else 0)=m.length:=by
 have h:=qpC (v:=v) (w:=0) hs;have:(qhu v 0 m).length=(qiO v m).length+1:=by simp[qhu,qiO];omega
 rw[this]at h;cases hh:qgt v m
 ·rw[hh]at h;simp only[Bool.false_eq_true,if_false]at h⊢
  omega
 ·rw[hh]at h;simp only[if_true]at h⊢
  omega
theorem qko (N:Nat) {v:qaQ}(hv:v.length≤12):qaD N (v,())=some ((v,()),()):=by
 have hr:qc1 (qn ([]:List qi)) (qn v) 32=true:=qj8 (by simp;omega);simp only[qaD,hr,cond_true,qfU,zaR];cases h:eqI (qn v) 0 with
 |false=>rfl
 |true=>
  rw[qa4,qv]at h;have h:=of_decide_eq_true h;have:v=[]:=List.length_eq_zero_iff.1 (by omega);subst this;rw[qnN,if_pos rfl];rfl
structure Tre (o:Nat) (p:HpP) (b:Int) {d:Nat}(t:Tr d):Prop where
 box:qN p.q0 b=some [((o:Int),(t.ptr,((t.es.length:Int),())))]
 rp:Rp p t
 nd:t.fp.Nodup
 fil:Fil o t
 ord:Ord t
 hi:t.fill≤o
 lo:d≠0→2≤t.fill
structure qrD (p q:HpP) (F F':List (Nat×Int)):Prop where
 k1:Up (fun j=>(1,j)∈F) p.q1 q.q1
 k2:Up (fun j=>(2,j)∈F) p.q2 q.q2
 k3:Up (fun j=>(3,j)∈F) p.q3 q.q3
 k4:Up (fun j=>(4,j)∈F) p.q4 q.q4
 sub:Sub p F F'
 q5:q.q5=p.q5
 q6:q.q6=p.q6
 q7:q.q7=p.q7
 q8:q.q8=p.q8
theorem qqa {b:Int}{a:EP0}(h:qN p.q0 b=some [a]):p.g0 b 0=a∧p.s0 b=true∧leI 0 b=true:=by
 refine⟨?_,?_,leT (qP h).1⟩
 ·show qJ (qy (qN p.q0 b) _) 0 _=_;rw[h,qg,qlS]
 ·show qp (qN p.q0 b)=_;rw[h,qf]
theorem qt6 {b:Int}{a:EP0}(h:qN p.q0 b=some [a]) (v:EP0):p.w0 b 0 v=p.u0 (qdD p.q0 b [v]):=by
 show p.u0 (qdD p.q0 b (qdz (qy (qN p.q0 b) _) 0 v))=_;rw[h,qg,qlL]
theorem Rp.of {d:Nat}{t:Tr d}(h:Rp p t) (h1:q.q1=p.q1) (h2:q.q2=p.q2) (h3:q.q3=p.q3) (h4:q.q4=p.q4):Rp q t:=
 match d,t,h with
 |0,.leaf i hh es,h=>⟨by rw[h1];exact h.1,by rw[h2];exact h.2⟩
 |_+1,.node i hk hc ks cs,h=>⟨by rw[h1];exact h.1,by rw[h3];exact h.2.1,by rw[h4];exact h.2.2.1,fun c hc=>(h.2.2.2 c hc).of h1 h2 h3 h4⟩
theorem Tre.bx {b:Int}{d:Nat}{t:Tr d}(h:Tre o p b t):Box p b o:=⟨_,h.box⟩
theorem qqv {v:qaQ}(h:qau v=0):v.length≤12:=by
 unfold qau at h;split at h
 ·cases h
 ·omega
theorem qtM (ho:Odr N o) {b:Int}{d:Nat}{t:Tr d}(z:Int) (hb:qN p.q0 b=some [((o:Int),(t.ptr,(z,())))]) (hr:Rp p t) (hnd:t.fp.Nodup) (hf:Fil o t) (hord:Ord t) (h1:t.fill≤o+1) (h2:d≠0→2≤t.fill) {c5:Bool}(hc5:c5=decide ((o:Int)<(t.fill:Int))) {c6} (e6:c6=qaO N p (t.ptr,())) {c7:HpP×((Int×Int)×(EP3×Unit))}(e7:c7=qy c6 (p,(((-1),0),(([]:List qi),())))):
  (bif c5 then((leI 0 b)&&((leI 0 b)&&((p.s0 b)&&((qp c6)&&((leI 0 b)&&((leI 0 b)&&((c7.1.s0 b)&&((leI 0 b)&&((leI 0 b)&&(c7.1.s0 b))))))))))else true)=true∧
  ∃(d':Nat) (t':Tr d') (q:HpP),bfP c5 ((((c7.1.w0 b 0 ((c7.1.g0 b 0).1,(((qn c7.1.q1),0),(c7.1.g0 b 0).2.2))).u1 (qdc c7.1.q1 ([(((-1),(0,0)),(((qn c7.1.q3),(0,(qn ([c7.2.2.1]:List EP3)))),(((qn c7.1.q4),(0,(qn ([(c7.1.g0 b 0).2.1,c7.2.1]:List (Int×Int))))),())))]:List EP1))).u3 (qdc c7.1.q3 ([c7.2.2.1]:List EP3))).u4 (qdc c7.1.q4 ([(c7.1.g0 b 0).2.1,c7.2.1]:List (Int×Int)))) p=q∧qN q.q0 b=some [((o:Int),(t'.ptr,(z,())))]∧Rp q t'∧t'.fp.Nodup∧Fil o t'∧Ord t'∧t'.fill≤o∧(d'≠0→2≤t'.fill)∧t'.es=t.es∧qrD p q t.fp t'.fp:=by
 have h3:=ho.lo;have h16:=ho.hi;obtain⟨b1,b2,b3⟩:=qqa hb;by_cases hlt:(o:Int)<(t.fill:Int)
 ·rw[decide_eq_true hlt]at hc5;subst hc5;obtain⟨⟨q1,rp,k,⟨⟩⟩,s1,l,r,k0,s2,s3,s4⟩:=qp4 (N:=N) (by omega) hr hf hnd (by omega) (by omega);dsimp only at s2 s3 s4;subst s3 s4;rw[s1]at e6;subst e6;rw[qg]at e7;subst e7;have hb1:qN q1.q0 b=some [((o:Int),(t.ptr,(z,())))]:=by rw[s2.fr.q0];exact hb
  obtain⟨g1,g2,g3⟩:=qqa hb1;refine⟨by dsimp only;rw[b2,b3,qf,g2];rfl,d+1,.node (qn q1.q1) (qn q1.q3,(0,qn [k])) (qn q1.q4,(0,qn [t.ptr,r.ptr])) [k] [l,r],_,rfl,?_,?_,?_,?_,?_,?_,fun _=>?_,?_,?_⟩
  ·dsimp only;rw[g1,qt6 hb1];exact qar hb1
  ·dsimp only;rw[g1,qt6 hb1];have hp:[t.ptr,r.ptr]=[l,r].map fun c=>c.ptr:=by
    show[(t.id,(0:Int)),r.ptr]=[(l.id,0),r.ptr];rw[s2.id]
   refine⟨qc7,Sl.new,?_,fun c hc=>?_⟩
   ·show Sl (qdc q1.q4 [t.ptr,r.ptr]) (qn q1.q4,(0,qn [t.ptr,r.ptr])) ([l,r].map fun c=>c.ptr);rw[hp];exact Sl.new
   ·have f:Fr [] q1 (((q1.u1 (qdc q1.q1 [(zH,((qn q1.q3,(0,qn [k])),((qn q1.q4,(0,qn [t.ptr,r.ptr])),())))])).u3 (qdc q1.q3 [k])).u4 (qdc q1.q4 [t.ptr,r.ptr])):=⟨rfl,rfl,rfl,rfl,rfl,Up.add,Up.refl,Up.add,Up.add⟩;have h0:Rp q1 c:=by
     rcases zak.1 hc with rfl|hc
     ·exact s2.rl
     ·rw[zah.1 hc];exact s2.rr
    exact(h0.fr f c (by simp)).of rfl rfl rfl rfl
  ·have z3:0≤qn q1.q3:=by rw[qv];omega
   have z4:0≤qn q1.q4:=by rw[qv];omega
   have efp:(Tr.node (qn q1.q1) (qn q1.q3,(0,qn [k])) (qn q1.q4,(0,qn [t.ptr,r.ptr])) [k] [l,r]).fp=[(1,qn q1.q1),(3,qn q1.q3),(4,qn q1.q4)]++(l.fp++r.fp):=by
    show(1,qn q1.q1)::(cell 3 (qn q1.q3,(0,qn [k]))++(cell 4 (qn q1.q4,(0,qn [t.ptr,r.ptr]))++fps [l,r]))=_;rw[qbT z3,qbT z4,qgW];rfl
   rw[efp];refine qux (p:=q1) s2.nd (by simp) (fun x hx=>?_) fun x hx=>?_
   ·rcases zaf.1 hx with hx|hx
    ·exact Rp.old _ s2.rl x hx
    ·exact Rp.old _ s2.rr x hx
   ·simp only[zak,List.not_mem_nil,or_false]at hx;rcases hx with rfl|rfl|rfl<;>exact zaF _
  ·have ll:=s2.ll;have lr:=s2.lr;refine⟨rfl,fun c hc=>?_⟩;rcases zak.1 hc with rfl|hc
   ·exact⟨by omega,by omega,s2.fl⟩
   ·rw[zah.1 hc];exact⟨by omega,by omega,s2.frr⟩
  ·have its:(Tr.node (qn q1.q1) (qn q1.q3,(0,qn [k])) (qn q1.q4,(0,qn [t.ptr,r.ptr])) [k] [l,r]).its=l.its++ .sp k::r.its:=by
    show l.its++(It.sp k::(r.its++[]))=_;rw[zaO]
   refine⟨?_,fun x hx=>?_⟩
   ·rw[its];have:=s2.spl.pw [] [] (by simpa using hord.pw);simpa using this
   ·rw[its]at hx;obtain⟨y,hy,e⟩:=s2.spl.kl x hx;rw[e];exact hord.kl y hy
  ·show 2≤o;omega
  ·exact zax _
  ·rw[s2.spl.es,Tr.es];show qhI (l.its++(It.sp k::(r.its++[])))=_;rw[qaR,zaO];rfl
  ·dsimp only;rw[g1,qt6 hb1];refine⟨s2.fr.k1.trans Up.add,s2.fr.k2,s2.fr.k3.trans Up.add,s2.fr.k4.trans Up.add,fun x hx=>?_,s2.fr.q5,s2.fr.q6,s2.fr.q7,s2.fr.q8⟩;have hx':x=(1,qn q1.q1)∨x=(3,qn q1.q3)∨x=(4,qn q1.q4)∨x∈l.fp++r.fp:=by
    have hx:x∈(1,qn q1.q1)::(cell 3 (qn q1.q3,(0,qn [k]))++(cell 4 (qn q1.q4,(0,qn [t.ptr,r.ptr]))++fps [l,r])):=hx;rw[qgW]at hx;rcases zak.1 hx with rfl|hx
    ·exact .inl rfl
    ·rcases zaf.1 hx with hx|hx
     ·exact .inr (.inl (qda hx).1)
     ·rcases zaf.1 hx with hx|hx
      ·exact .inr (.inr (.inl (qda hx).1))
      ·exact .inr (.inr (.inr hx))
   rcases hx' with rfl|rfl|rfl|hx'
   ·exact .inr (s2.fr.ln 1)
   ·exact .inr (s2.fr.ln 3)
   ·exact .inr (s2.fr.ln 4)
   ·exact s2.sub x hx'
 ·rw[decide_eq_false hlt]at hc5;subst hc5;exact⟨rfl,d,t,p,rfl,hb,hr,hnd,hf,hord,by omega,h2,rfl,⟨Up.refl,Up.refl,Up.refl,Up.refl,Sub.refl,rfl,rfl,rfl,rfl⟩⟩
theorem qrD.trans {p q q2:HpP}{F F' F2:List (Nat×Int)}(f:Fr F p q) (s:Sub p F F') (h2:qrD q q2 F' F2):qrD p q2 F F2:=by
 have h:Fr F' q (q2.u0 q.q0):=⟨rfl,h2.q5,h2.q6,h2.q7,h2.q8,h2.k1,h2.k2,h2.k3,h2.k4⟩;have g:=f.trans s h;exact⟨g.k1,g.k2,g.k3,g.k4,s.trans f h2.sub,g.q5,g.q6,g.q7,g.q8⟩
theorem qvI (ho:Odr N o) {b:Int}{d:Nat}(hd:d<N) {t:Tr d}(h:Tre o p b t) (hl:t.es.length≤900) (v:qaQ) (w:Int):
  Ret (fun r=>(qau v≠0→r=(p,(false,(qau v,()))))∧(qau v=0→∃(d':Nat) (t':Tr d'),Tre o r.1 b t'∧t'.es=qhu v w t.es∧qrD p r.1 t.fp t'.fp∧r.2=(!qgt v t.es,(0,())))) (qfX N p ((b,0),(v,(w,())))):=by
 have h3:=ho.lo;have h16:=ho.hi;have hn:=ho.n.lo;have ce:=qeM N v (by omega);obtain⟨b1,b2,b3⟩:=qqa h.box;delta qfX;refine Ret.G (by rw[ce,qf]) (Ret.Jv ?_);dsimp -zeta only;extract_lets c0 c1 c2;refine Ret.J fun y1 g1=>?_;rw[ce,qg]at g1;have g1:y1=qau v:=g1;subst g1;refine Ret.B (fun hne=>Ret.mk ⟨fun _=>rfl,fun h0=>?_⟩) fun hne=>?_
 ·rw[qaM,h0]at hne;cases hne
 rw[qaM]at hne;have hz:qau v=0:=by simpa using hne
 have hv:=qqv hz;have e0:c0=some ((v,()),()):=qko N hv;obtain⟨⟨p1,ad,⟨⟩⟩,i1,t1,i2⟩:=qoB ho b v w hv N hd h.bx t h.rp h.nd h.fil h.ord (by have:=h.hi;omega);dsimp only at i2;have e1:c1=some (p1,(ad,())):=by
  show qfp N p ((b,0),((p.g0 b 0).2.1,(((qy c0 ((([]:List qi),()),())).1.1,(w,())),())))=_;rw[b1,e0,qg];exact i1
 have e2:c2=(p1,(ad,())):=by show qy c1 _=_;rw[e1,qg]
 clear_value c0 c1 c2;subst e0 e1 e2;refine Ret.G (by rw[b2,b3,qf,qf];rfl) (Ret.Jv (Ret.Jv (Ret.Jv (Ret.Rv ?_))));dsimp -zeta only;have hb1:qN p1.q0 b=some [((o:Int),(t1.ptr,((t.es.length:Int),())))]:=by
  have:t1.ptr=t.ptr:=by show(t1.id,(0:Int))=(t.id,0);rw[i2.mov.id]
  rw[i2.mov.fr.q0,this];exact h.box
 obtain⟨f1,f2,_⟩:=qqa hb1;have fl:=qi4 (N:=N) i2.mov.rp i2.fil;extract_lets c3 c4 c5 c6 c7;have e3:c3=some (p1,((t1.fill:Int),())):=by show qV N p1 ((p1.g0 b 0).2.1,())=_;rw[f1];exact fl
 have e4:c4=(p1,((t1.fill:Int),())):=by show qy c3 _=_;rw[e3,qg]
 have e5:c5=decide ((o:Int)<(t1.fill:Int)):=by show ltI (c4.1.g0 b 0).1 c4.2.1=_;rw[e4,f1,qan]
 have e6:c6=qaO N p1 (t1.ptr,()):=by show qaO N c4.1 ((c4.1.g0 b 0).2.1,())=_;rw[e4,f1]
 have e7:c7=qy c6 (p1,(((-1),0),(([]:List qi),()))):=by show qy c6 (c4.1,_)=_;rw[e4]
 clear_value c3 c4 c5 c6 c7;subst e3 e4;obtain⟨r1,d',t',q,r2,r3,r4,r5,r6,r7,r8,r9,r10,r11⟩:=qtM ho _ hb1 i2.mov.rp i2.mov.nd i2.fil i2.ord (by have:=i2.f2;have:=h.hi;omega) (fun hd=>by have:=i2.f1;have:=h.lo hd;omega) e5 e6 e7;refine Ret.G (by rw[f2,b3,qf,qcz];rfl) (Ret.G r1 (Ret.R fun h6 e=>?_));replace e:h6=q:=e.trans r2;subst e;obtain⟨j1,j2,_⟩:=qqa r3;refine Ret.G (by rw[j2,b3];cases ad<;>rfl) (Ret.R fun h7 e=>Ret.mk ⟨fun h=>absurd hz h,fun _=>?_⟩);have hes:t'.es=qhu v w t.es:=r10.trans i2.es;have hpl:=qpC (v:=v) (w:=w) (qjT h.ord.pw);have hrr:qrD p h6 t.fp t'.fp:=qrD.trans i2.mov.fr i2.mov.sub r11;refine⟨d',t',?_,hes,?_,by dsimp only;rw[i2.add]⟩
 ·cases hh:qgt v t.es with
  |true=>
   rw[i2.add,hh]at e;have e:h7=h6:=e;subst e;have hll:t'.es.length=t.es.length:=by rw[hes,hpl,hh];rfl
   exact⟨by rw[hll];exact r3,r4,r5,r6,r7,r8,r9⟩
  |false=>
   rw[i2.add,hh,j1,qt6 r3]at e;have hll:t'.es.length=t.es.length+1:=by rw[hes,hpl,hh];rfl
   have e:h7=h6.u0 (qdD h6.q0 b [((o:Int),(t'.ptr,(qaj .i64 (t.es.length:Int) 1,())))]):=e;rw[qa2 (by omega),←hll]at e;subst e;exact⟨qar r3,r4.of rfl rfl rfl rfl,r5,r6,r7,r8,r9⟩
 ·have:h7.q1=h6.q1∧h7.q2=h6.q2∧h7.q3=h6.q3∧h7.q4=h6.q4∧h7.q5=h6.q5∧h7.q6=h6.q6∧h7.q7=h6.q7∧h7.q8=h6.q8:=by
   rw[e];cases ad<;>exact⟨rfl,rfl,rfl,rfl,rfl,rfl,rfl,rfl⟩
  obtain⟨x1,x2,x3,x4,x5,x6,x7,x8⟩:=this;exact⟨by rw[x1];exact hrr.k1,by rw[x2];exact hrr.k2,by rw[x3];exact hrr.k3,by rw[x4];exact hrr.k4,hrr.sub,x5.trans hrr.q5,x6.trans hrr.q6,x7.trans hrr.q7,x8.trans hrr.q8⟩
end
end Go.Proofs.Ytdiobaoelhdkoaa
namespace Go.Proofs.Ytdiobaoelhdkoaa
open Go.Vi
noncomputable section
variable {p q:HpP}{N o:Nat}
theorem qtt {d:Nat}{t:Tr d}(hr:Rp p t):∃a:EP1,p.g1 t.id 0=a∧p.s1 t.id=true∧leI 0 t.id=true∧qaS a.2.2.1.2.2 a.2.2.1.2.1=(t.own.ps.length:Int)∧Sl p.q4 a.2.2.1 t.own.ps:=by
 have h:=hr.own;obtain⟨a1,a2,a3⟩:=qfe h.row;exact⟨_,a1,a2,a3,h.c.len,h.c⟩
theorem qtU (ho:Odr N o) {b:Int}{d:Nat}{t:Tr d}(z:Int) (hb:qN p.q0 b=some [((o:Int),(t.ptr,(z,())))]) (hr:Rp p t) (hnd:t.fp.Nodup) (hf:Fil o t) (hord:Ord t) (h1:t.fill≤o) (h2:d≠0→1≤t.fill) {c2:EP1}(e2:c2=p.g1 (p.g0 b 0).2.1.1 (p.g0 b 0).2.1.2) {c3:Int}(e3:c3=qaS c2.2.2.1.2.2 c2.2.2.1.2.1) {c4:Bool}(e4:c4=eqI c3 1):
  ((leI 0 b)&&((leI 0 b)&&((p.s0 b)&&((leI 0 (p.g0 b 0).2.1.1)&&((leI 0 (p.g0 b 0).2.1.1)&&(p.s1 (p.g0 b 0).2.1.1))))))=true∧
  (bif c4 then((leI 0 b)&&((leI 0 b)&&((p.s0 b)&&((leI 0 (p.g0 b 0).2.1.1)&&((leI 0 (p.g0 b 0).2.1.1)&&((p.s1 (p.g0 b 0).2.1.1)&&((inB 0 c3)&&((p.s4 c2.2.2.1.1)&&((leI 0 b)&&((leI 0 b)&&(p.s0 b)))))))))))else true)=true∧
  ∃(d':Nat) (t':Tr d') (q:HpP),bfP c4 (p.w0 b 0 ((p.g0 b 0).1,((p.g4 c2.2.2.1.1 (qX c2.2.2.1.2.1 0)),(p.g0 b 0).2.2))) p=q∧qN q.q0 b=some [((o:Int),(t'.ptr,(z,())))]∧Rp q t'∧t'.fp.Nodup∧Fil o t'∧Ord t'∧t'.fill≤o∧(d'≠0→2≤t'.fill)∧t'.es=t.es∧qrD p q t.fp t'.fp:=by
 have h3:=ho.lo;obtain⟨b1,b2,b3⟩:=qqa hb;obtain⟨a,a1,a2,a3,a4,a5⟩:=qtt hr;have e2':c2=a:=by rw[e2,b1];exact a1
 subst e2';rw[a4]at e3;subst e3;refine⟨by rw[b1,b2,b3,a2,a3];rfl,?_⟩;by_cases hone:t.own.ps.length=1
 ·have e4':c4=true:=by rw[e4,hone,qa4];rfl
  subst e4';obtain⟨k1,k2,k3⟩:=kid' a5 (j:=0) (by omega);refine⟨by rw[b1,b2,b3];dsimp only;rw[a2,a3,k2,qbG,hone];rfl,?_⟩;match d,t,hb,hr,hnd,hf,hord,h1,h2,hone,b1,k1 with
  |0,.leaf _ _ _,_,_,_,_,_,_,_,hone,_,_=>cases hone
  |d+1,.node i hk hc ks cs,hb,hr,hnd,hf,hord,h1,h2,hone,b1,k1=>
   have hcs:cs.length=1:=by have hone:(cs.map fun c=>c.ptr).length=1:=hone;simpa using hone
   have hl:cs.length=ks.length+1:=hf.1;obtain⟨c,rfl⟩:=List.length_eq_one_iff.1 hcs;have hks:ks=[]:=List.length_eq_zero_iff.1 (by omega);subst hks;have okc:=hf.2 c (.head _);have its:(Tr.node i hk hc [] [c]).its=c.its:=zaO _;have rc:Rp p c:=hr.2.2.2 c (.head _);have hfp:∀x∈c.fp,x∈(Tr.node i hk hc [] [c]).fp:=fun x hx=>by
    show x∈(1,i)::(cell 3 hk++(cell 4 hc++fps [c]));rw[qd5];exact .tail _ (zaa _ (zaa _ hx))
   have kk:p.g4 c2.2.2.1.1 (qX c2.2.2.1.2.1 0)=c.ptr:=k1;refine⟨d,c,_,rfl,?_,rc.of rfl rfl rfl rfl,?_,okc.2.2,⟨by have:=hord.pw;rw[its]at this;exact this,by have:=hord.kl;rw[its]at this;exact this⟩,okc.2.1,fun _=>by have:=okc.1;omega,by rw[Tr.es,Tr.es,its],⟨Up.refl,Up.refl,Up.refl,Up.refl,fun x hx=>.inl (hfp x hx),rfl,rfl,rfl,rfl⟩⟩
   ·show qN (p.w0 b 0 _).q0 b=_;rw[qt6 hb,b1,kk];exact qar hb
   ·refine hnd.sublist ?_;show zaU c.fp ((1,i)::(cell 3 hk++(cell 4 hc++fps [c])));rw[qd5];exact((zaM _ _).trans (zaM _ _)).trans (List.sublist_cons_self _ _)
 ·have e4':c4=false:=by rw[e4,qa4];exact decide_eq_false (by omega)
  subst e4';refine⟨rfl,d,t,p,rfl,hb,hr,hnd,hf,hord,h1,fun hd=>?_,rfl,⟨Up.refl,Up.refl,Up.refl,Up.refl,Sub.refl,rfl,rfl,rfl,rfl⟩⟩;have:=h2 hd;match d,t,hd,hone,this with
  |0,_,hd,_,_=>exact absurd rfl hd
  |d+1,.node i hk hc ks cs,_,hone,this=>
   have hone:(cs.map fun c=>c.ptr).length≠1:=hone;have this:1≤cs.length:=this;show 2≤cs.length;rw[zaH]at hone;omega
theorem qsr (ho:Odr N o) {b:Int}{d:Nat}(hd:d<N) {t:Tr d}(h:Tre o p b t) (hl:t.es.length≤900) (v:qaQ):
  Ret (fun r=>(qau v≠0→r=(p,(qau v,())))∧(qau v=0→∃(d':Nat) (t':Tr d'),Tre o r.1 b t'∧t'.es=qiO v t.es∧qrD p r.1 t.fp t'.fp∧r.2.1=if qgt v t.es then 0 else 4)) (qbu N p ((b,0),(v,()))):=by
 have h3:=ho.lo;have h16:=ho.hi;have hn:=ho.n.lo;have ce:=qeM N v (by omega);obtain⟨b1,b2,b3⟩:=qqa h.box;delta qbu;refine Ret.G (by rw[ce,qf]) (Ret.Jv ?_);dsimp -zeta only;extract_lets c0 c1;refine Ret.J fun y1 g1=>?_;rw[ce,qg]at g1;have g1:y1=qau v:=g1;subst g1;refine Ret.B (fun hne=>Ret.mk ⟨fun _=>rfl,fun h0=>?_⟩) fun hne=>?_
 ·rw[qaM,h0]at hne;cases hne
 rw[qaM]at hne;have hz:qau v=0:=by simpa using hne
 obtain⟨⟨p1,ad,⟨⟩⟩,i1,t1,i2⟩:=qol ho b v N hd (zax _) h.bx t h.rp h.nd h.fil h.ord (by have:=h.hi;omega) h.lo;dsimp only at i2;have e0:c0=some (p1,(ad,())):=by
  show qfq N p ((b,0),((p.g0 b 0).2.1,(v,())))=_;rw[b1];exact i1
 have e1:c1=(p1,(ad,())):=by show qy c0 _=_;rw[e0,qg]
 clear_value c0 c1;subst e0 e1;have hb1:qN p1.q0 b=some [((o:Int),(t1.ptr,((t.es.length:Int),())))]:=by
  have:t1.ptr=t.ptr:=by show(t1.id,(0:Int))=(t.id,0);rw[i2.mov.id]
  rw[i2.mov.fr.q0,this];exact h.box
 have hdl:=qsf (v:=v) (qjT h.ord.pw);refine Ret.G (by rw[b2,b3,qf];rfl) (Ret.Jv (Ret.Jv (Ret.B (fun hnf=>Ret.Rv (Ret.mk ⟨fun h=>absurd hz h,fun _=>?_⟩)) fun hf=>Ret.Rv ?_)))
 ·have had:ad=false:=by simpa using hnf
  have hh:qgt v t.es=false:=by rw[←i2.del];exact had
  have hes:t1.es.length=t.es.length:=by
   rw[i2.es];rw[hh]at hdl;simpa using hdl
  have nf:=i2.nf had;refine⟨d,t1,⟨by rw[hes];exact hb1,i2.mov.rp,i2.mov.nd,i2.fil,i2.ord,by have:=i2.f2;have:=h.hi;omega,fun hd=>by have:=h.lo hd;omega⟩,i2.es,⟨i2.mov.fr.k1,i2.mov.fr.k2,i2.mov.fr.k3,i2.mov.fr.k4,i2.mov.sub,i2.mov.fr.q5,i2.mov.fr.q6,i2.mov.fr.q7,i2.mov.fr.q8⟩,by rw[hh];rfl⟩
 ·have had:ad=true:=by simpa using hf
  have hh:qgt v t.es=true:=by rw[←i2.del];exact had
  dsimp -zeta only;extract_lets c2 c3 c4;obtain⟨r0,r1,d',t',q,r2,r3,r4,r5,r6,r7,r8,r9,r10,r11⟩:=qtU ho _ hb1 i2.mov.rp i2.mov.nd i2.fil i2.ord (by have:=i2.f2;have:=h.hi;omega) (fun hd=>by have:=i2.f1;have:=h.lo hd;omega) (c2:=c2) rfl (c3:=c3) rfl (c4:=c4) rfl;refine Ret.G r0 (Ret.G r1 (Ret.R fun h5 e=>?_));replace e:h5=q:=e.trans r2;subst e;obtain⟨j1,j2,_⟩:=qqa r3;refine Ret.G (by rw[j2,b3];rfl) (Ret.R fun h6 e=>Ret.mk ⟨fun h=>absurd hz h,fun _=>?_⟩);have hes:t'.es=qiO v t.es:=r10.trans i2.es;have hrr:qrD p h5 t.fp t'.fp:=qrD.trans i2.mov.fr i2.mov.sub r11;rw[hh]at hdl;simp only[if_true]at hdl;rw[j1,qt6 r3]at e;have e:h6=h5.u0 (qdD h5.q0 b [((o:Int),(t'.ptr,(qaF .i64 (t.es.length:Int) 1,())))]):=e;have hll:qaF .i64 (t.es.length:Int) 1=(t'.es.length:Int):=by
   rw[qby (by omega) (by omega),hes];have:((qiO v t.es).length:Int)+1=(t.es.length:Int):=by exact_mod_cast hdl
   omega
  rw[hll]at e;subst e;exact⟨d',t',⟨qar r3,r4.of rfl rfl rfl rfl,r5,r6,r7,r8,r9⟩,hes,⟨hrr.k1,hrr.k2,hrr.k3,hrr.k4,hrr.sub,hrr.q5,hrr.q6,hrr.q7,hrr.q8⟩,by rw[hh];rfl⟩
theorem qrN {d:Nat}{i:Int}{hk hc:Hnd}{KA KB:List qaQ}{A B:List (Tr d)}{c:Tr d}(la:KA.length=A.length):(Tr.node i hk hc (KA++KB) (A++([c]++B))).es=qhI (pre KA (A.map fun c=>c.its))++(c.es++qhI (suf KB (B.map fun c=>c.its))):=by
 rw[Tr.es,qcZ la,qaR,qaR]
theorem kid_o {d:Nat}{i:Int}{hk hc:Hnd}{KA KB:List qaQ}{A B:List (Tr d)}{c:Tr d}(la:KA.length=A.length) (hord:Ord (Tr.node i hk hc (KA++KB) (A++([c]++B)))):Ord c:=by
 have h1:=hord.pw;have h2:=hord.kl;rw[qcZ la]at h1 h2;exact⟨(zaL.1 (zaL.1 h1).2.1).1,fun x hx=>h2 x (zaa _ (zab _ hx))⟩
theorem qu1 (ho:Odr N o) {b:Int}{d:Nat}(hd:d<N) {t:Tr d}(h:Tre o p b t) (v:qaQ):
  qcQ N p ((b,0),(v,()))=some (p,if qau v≠0 then(0,(qau v,()))else((qj v t.es).getD 0,(if qgt v t.es then 0 else 4,()))):=by
 have h3:=ho.lo;have h16:=ho.hi;have hn:=ho.n.lo;have ce:=qeM N v (by omega);obtain⟨b1,b2,b3⟩:=qqa h.box;have:Ret (fun r=>r=(p,if qau v≠0 then(0,(qau v,()))else((qj v t.es).getD 0,(if qgt v t.es then 0 else 4,())))) (qcQ N p ((b,0),(v,()))):=by
  delta qcQ;refine Ret.G (by rw[ce,qf]) (Ret.Jv (Ret.J fun y1 g1=>?_));rw[ce,qg]at g1;have g1:y1=qau v:=g1;subst g1;refine Ret.B (fun hne=>Ret.mk ?_) fun hne=>Ret.G (by rw[b2,b3];rfl) ?_
  ·rw[qaM]at hne;rw[if_pos (by simpa using hne)]
  rw[qaM]at hne;have hz:qau v=0:=by simpa using hne
  rw[if_neg (by simp[hz])];refine Ret.it (fun k (s:HpP×((Int×Int)×Unit))=>∃t':Tr k,s=(p,(t'.ptr,()))∧Rp p t'∧Fil o t'∧Ord t'∧qj v t'.es=qj v t.es∧t'.fill≤o) (m:=d) ⟨t,by rw[b1],h.rp,h.fil,h.ord,rfl,h.hi⟩ hd fun k s ih _ hI hih=>?_;obtain⟨t',rfl,hr',hf',ho',hg,hfl⟩:=hI;have e:=qcY (N:=N) hr' hf';dsimp -zeta only;extract_lets c0;have e0:c0=(p,(decide (k=0),())):=by show qy (qr N p (t'.ptr,())) _=_;rw[e,qg]
  clear_value c0;subst e0;refine Ret.G (by rw[e,qf]) ?_;match k,t',hr',hf',ho',hg,hfl,hih,e with
  |0,.leaf i hh es,hr',hf',ho',hg,hfl,hih,e=>
   have hfl:es.length≤o:=hfl;obtain⟨a1,a2,a3⟩:=qfe hr'.1;obtain⟨A,Mi,B,cu,se⟩:=qiz ho.n hr' ho' (by omega) v;rw[qb2]at hg;rw[qgt,←hg,cu.get];refine Ret.F rfl (Ret.Rv ?_);dsimp -zeta only;extract_lets c3 c4;have e3:c3=some (p,((A.length:Int),(!Mi.isEmpty,()))):=se;have e4:c4=(p,((A.length:Int),(!Mi.isEmpty,()))):=by show qy c3 _=_;rw[e3,qg]
   clear_value c3 c4;subst e3 e4;refine Ret.G (qf _) (Ret.Jv (Ret.Jv (Ret.Jv (Ret.Jv (Ret.Rv ?_)))));rcases cu.mid with hm|⟨m,hm,hmk⟩
   ·subst hm;exact Ret.G rfl (Ret.mk rfl)
   ·subst hm;have hlen:es.length=A.length+(1+B.length):=by rw[cu.eq];simp;omega
    have hi:A.length<es.length:=by omega
    have hm:es[A.length]=m:=by
     have:=cu.eq;subst this;simp
    obtain⟨w1,w2,w3⟩:=hr'.2.alive hi;have g:=hr'.2.get hi zP2 [];refine Ret.F rfl (Ret.G (by
     show(leI 0 i&&(leI 0 i&&(p.s1 i&&(inB (A.length:Int) (qaS (p.g1 i 0).1.2.2 (p.g1 i 0).1.2.1)&&(leI 0 (p.g1 i 0).1.1&&p.s2 (p.g1 i 0).1.1)))))=true;rw[a1,a2,a3];dsimp only;rw[hr'.2.len,w2,show p.s2 hh.1=true from w1,qbG];simp;omega) (Ret.mk ?_))
    show(p,((p.g2 (p.g1 i 0).1.1 (qX (p.g1 i 0).1.2.1 (A.length:Int))).2.1,(0,())))=_;rw[a1];dsimp only;rw[show p.g2 hh.1 (qX hh.2.1 (A.length:Int))=m from g.trans hm];rfl
  |k+1,.node i hk hc ks cs,hr',hf',ho',hg,hfl,hih,e=>
   have hfl:cs.length≤o:=hfl;obtain⟨a1,a2,a3⟩:=qfe hr'.1;obtain⟨KA,KB,A,c,B,ps,cie⟩:=qjX ho.n hr' hf' ho' (by omega) v;obtain⟨rfl,rfl,la,bd⟩:=ps;obtain⟨k1,k2,k3⟩:=kid hr'.2.2.1;have okc:Okc o c:=hf'.2 c (zaa _ (.head _));refine Ret.G rfl (Ret.Rv ?_);dsimp -zeta only;extract_lets c1 c2;have e1:c1=some (p,((A.length:Int),())):=cie;have e2:c2=(p,((A.length:Int),())):=by show qy c1 _=_;rw[e1,qg]
   clear_value c1 c2;subst e1 e2;refine Ret.G (by
    show(leI 0 i&&(leI 0 i&&(p.s1 i&&(qp (some (p,((A.length:Int),())))&&(inB (A.length:Int) (qaS (p.g1 i 0).2.2.1.2.2 (p.g1 i 0).2.2.1.2.1)&&(p.s4 (p.g1 i 0).2.2.1.1&&qmF (qN p.q1 i) (qN p.q1 i)))))))=true;rw[a1,a2,a3,qf,qcz];dsimp only;rw[k2,k3];rfl) (hih k _ (by omega) ⟨c,?_,hr'.2.2.2 c (zaa _ (.head _)),okc.2.2,kid_o la ho',?_,okc.2.1⟩)
   ·show(p,(p.g4 (p.g1 i 0).2.2.1.1 (qX (p.g1 i 0).2.2.1.2.1 (A.length:Int)),()))=_;rw[a1];dsimp only;rw[k1]
   ·have ee:=bdlt (bd 0);rw[←hg,show(Tr.node i hk hc (KA++KB) (A++c::B)).es=_ from qrN (c:=c) la,qjZ ee.1 ee.2]
 obtain⟨r,e,rfl⟩:=this;exact e
end
end Go.Proofs.Ytdiobaoelhdkoaa
namespace Go.Proofs.Ytdiobaoelhdkoaa
open Go.Vi
noncomputable section
variable {p q:HpP}{N o:Nat}
theorem kidn {d:Nat}{i:Int}{hk hc:Hnd}{ks:List qaQ}{cs:List (Tr d)}(hr:Rp p (Tr.node i hk hc ks cs)) {j:Nat}(hj:j<cs.length):p.g4 hc.1 (qX hc.2.1 (j:Int))=cs[j].ptr∧p.s4 hc.1=true:=by
 obtain⟨k1,k2,_⟩:=kid' hr.2.2.1 (j:=j) (by rw[zaH];exact hj);exact⟨by rw[k1];simp,k2⟩
theorem qqq (ho:Odr N o): {d:Nat}→(M:Nat)→d<M→d≤1000→(t:Tr d)→Rp p t→Fil o t→t.fill≤100→
  Ret (fun r=>r.1=p∧r.2.1.2.1=(d:Int)+1∧r.2.1.2.2.1=(d:Int)+1∧(d≠0→(((o+1)/2:Nat):Int)≤r.2.1.2.2.2.1∧r.2.1.2.2.2.2.1≤(o:Int))∧(d=0→r.2.1.2.2.2.2.1=0)) (qbI N M p (t.ptr,()))
 |_,0,h,_,_,_,_,_=>absurd h (Nat.not_lt_zero _)
 |0,M+1,_,_,.leaf i hh es,hr,hf,hl=>by
  have e:=qcY (N:=N) hr hf;show Ret _ (qbI N (Nat.succ M) p ((i,0),()));delta qbI;dsimp -zeta only;extract_lets c0;have e0:c0=(p,(true,())):=by show qy (qr N p ((i,0),())) _=_;rw[show qr N p ((i,0),())=_ from e,qg];rfl
  clear_value c0;subst e0;exact Ret.G (by rw[show qr N p ((i,0),())=_ from e,qf]) (Ret.Jv (Ret.Jv (Ret.G rfl (Ret.Rv (Ret.mk ⟨rfl,rfl,rfl,fun h=>absurd rfl h,fun _=>rfl⟩)))))
 |d+1,M+1,hM,hd,.node i hk hc ks cs,hr,hf,hl=>by
  have hl2:cs.length≤100:=hl;have h3:=ho.lo;have h16:=ho.hi;have hn:=ho.n.lo;have hne:=hf.ne;have e:=qcY (N:=N) hr hf;obtain⟨a1,a2,a3⟩:=qfe hr.1;have hlen:=hr.2.2.1.len;rw[zaH]at hlen;show Ret _ (qbI N (Nat.succ M) p ((i,0),()));delta qbI;dsimp -zeta only;extract_lets c0;have e0:c0=(p,(false,())):=by show qy (qr N p ((i,0),())) _=_;rw[show qr N p ((i,0),())=_ from e,qg];rfl
  clear_value c0;subst e0;refine Ret.G (by rw[show qr N p ((i,0),())=_ from e,qf]) (Ret.Jv (Ret.Jv (Ret.F rfl (Ret.Rv ?_))));dsimp -zeta only;extract_lets c1;have e1:c1=(cs.length:Int):=by show qaS (p.g1 i 0).2.2.1.2.2 (p.g1 i 0).2.2.1.2.1=_;rw[a1];exact hlen
  clear_value c1;subst e1;refine Ret.G (by rw[a2,a3];rfl) ?_;refine Ret.it (fun k (s:HpP×(qcr×(Int×Unit)))=>∃(j:Nat) (z a b c e:Int),s=(p,((z,(a,(b,(c,(e,()))))),((j:Int),())))∧j+k=cs.length∧a=(if j=0 then 1048576 else(d:Int)+2)∧b=(if j=0 then 0 else(d:Int)+2)∧(((o+1)/2:Nat):Int)≤c∧0≤e∧e≤(o:Int)) (m:=cs.length) ⟨0,_,_,_,_,_,rfl,by omega,rfl,rfl,by omega,by omega,by omega⟩ (by omega) fun k s ih _ hI hih=>?_;obtain⟨j,z,a,b,c,e',rfl,hj,ha,hb,hc1,he1,he2⟩:=hI;dsimp -zeta only;extract_lets c2 c3 c4 c5 c6;by_cases hk0:k=0
  ·subst hk0;refine Ret.F (by rw[qan];exact decide_eq_false (by omega)) (Ret.mk ⟨rfl,?_,?_,fun _=>⟨hc1,he2⟩,fun h=>by cases h⟩)
   ·show a=_;rw[ha,if_neg (by omega)];omega
   ·show b=_;rw[hb,if_neg (by omega)];omega
  ·have hjl:j<cs.length:=by omega
   obtain⟨k1,k2⟩:=kidn hr hjl;have okc:=hf.2 cs[j] (List.getElem_mem hjl);have rc:=hr.2.2.2 cs[j] (List.getElem_mem hjl);obtain⟨⟨p1,⟨y0,y1,y2,y3,y4,⟨⟩⟩,⟨⟩⟩,s1,s2,s3,s4,s5,s6⟩:=qqq ho M (by omega) (by omega) cs[j] rc okc.2.2 (by have:=okc.2.1;omega);dsimp only at s2 s3 s4 s5 s6;rw[s2]at s1;have fc:=qi4 (N:=N) rc okc.2.2;have lc:=qcY (N:=N) rc okc.2.2;have e2:c2=cs[j].ptr:=by show p.g4 (p.g1 i 0).2.2.1.1 (qX (p.g1 i 0).2.2.1.2.1 (j:Int))=_;rw[a1];exact k1
   have e3:c3=some (p,((y0,(y1,(y2,(y3,(y4,()))))),())):=by show qbI N M p (c2,())=_;rw[e2];exact s1
   have e4:c4=(p,((y0,(y1,(y2,(y3,(y4,()))))),())):=by show qy c3 _=_;rw[e3,qg]
   have ed:qaj .i64 ((d:Int)+1) 1=(d:Int)+2:=by rw[qbK (by omega) (by omega)];omega
   have e5:c5=(d:Int)+2:=by
    show qo9 a (qaj .i64 c4.2.1.2.1 1)=_;rw[e4];dsimp only;rw[s3,ed,qe8,ha];by_cases h0:j=0
    ·rw[if_pos h0,if_pos (by omega)]
    ·rw[if_neg h0,if_neg (by omega)]
   have e6:c6=(d:Int)+2:=by
    show qnI b (qaj .i64 c4.2.1.2.2.1 1)=_;rw[e4];dsimp only;rw[s4,ed,qiq,hb];by_cases h0:j=0
    ·rw[if_pos h0,if_pos (by omega)]
    ·rw[if_neg h0,if_neg (by omega)]
   clear_value c2 c3 c4 c5 c6;subst e2 e3 e4 e5 e6;refine Ret.G (by rw[qan];exact decide_eq_true (by omega)) (Ret.G (by rw[a1,k2,qbG];simp;omega) (Ret.G (qf _) (Ret.Jv (Ret.Rv ?_))));dsimp -zeta only;extract_lets c7 c8 c9 c10;have e7:c7=(p,((cs[j].fill:Int),())):=by show qy (qV N p (cs[j].ptr,())) _=_;rw[fc,qg]
   have e8:c8=some (p,((cs[j].fill:Int),())):=by show qV N c7.1 (cs[j].ptr,())=_;rw[e7];exact fc
   have e9:c9=(p,((cs[j].fill:Int),())):=by show qy c8 _=_;rw[e8,qg]
   have e10:(((o+1)/2:Nat):Int)≤c10:=by
    show _≤qo9 c c7.2.1;rw[e7,qe8];have:=okc.1;dsimp only;split<;>omega
   clear_value c7 c8 c9 c10;subst e7 e8 e9;refine Ret.G (by rw[fc,qf];rfl) (Ret.Jv (Ret.Rv ?_));dsimp -zeta only;extract_lets c11;have e11:c11=(p,(decide (d=0),())):=by show qy (qr N p (cs[j].ptr,())) _=_;rw[lc,qg]
   clear_value c11;subst e11;have hfo:=okc.2.1;have hmx:∀y:Int,y≤(o:Int)→0≤qnI (qnI e' (cs[j].fill:Int)) y∧qnI (qnI e' (cs[j].fill:Int)) y≤(o:Int):=fun y hy=>by
    rw[qiq,qiq];split<;>split<;>omega
   have hy4:y4≤(o:Int):=by
    by_cases hd0:d=0
    ·rw[s6 hd0];omega
    ·exact(s5 hd0).2
   refine Ret.G (by rw[lc,qf]) (Ret.Rv (hih (k-1) _ (by omega) ?_));rw[qa2 (by omega)];by_cases hd0:d=0
   ·refine⟨j+1,z,(d:Int)+2,(d:Int)+2,c10,qnI (qnI e' (cs[j].fill:Int)) y4,by rw[decide_eq_true hd0];rfl,by omega,rfl,rfl,e10,(hmx y4 hy4).1,(hmx y4 hy4).2⟩
   ·refine⟨j+1,z,(d:Int)+2,(d:Int)+2,qo9 c10 y3,qnI (qnI e' (cs[j].fill:Int)) y4,by rw[decide_eq_false hd0];rfl,by omega,rfl,rfl,?_,(hmx y4 hy4).1,(hmx y4 hy4).2⟩;have:=(s5 hd0).1;rw[qe8];split<;>omega
end
end Go.Proofs.Ytdiobaoelhdkoaa
namespace Go.Proofs.Ytdiobaoelhdkoaa
open Go.Vi
noncomputable section
variable {p q:HpP}{N o:Nat}
def qj0 (st:List Ent→Ent→Option (List Ent)):List Ent→List Ent→List Ent×Bool
 |out,[]=>(out,true)
 |out,e::L=>match st out e with
  |some out'=>qj0 st out' L
  |none=>(out,false)
theorem qp8 (st:List Ent→Ent→Option (List Ent)):(L1 L2 out:List Ent)→qj0 st out (L1++L2)=bif (qj0 st out L1).2 then qj0 st (qj0 st out L1).1 L2 else qj0 st out L1
 |[],_,_=>rfl
 |e::L1,L2,out=>by
  simp only[List.cons_append,qj0];cases st out e with
  |none=>rfl
  |some o'=>exact qp8 st L1 L2 o'
theorem qpY {st:List Ent→Ent→Option (List Ent)}(hg:∀out e out',st out e=some out'→out'.length≤out.length+1):(L out:List Ent)→(qj0 st out L).1.length≤out.length+L.length
 |[],out=>by simp[qj0]
 |e::L,out=>by
  simp only[qj0];cases h:st out e with
  |none=>simp
  |some o'=>
   have:=hg _ _ _ h;have:=qpY hg L o';simp only[List.length_cons];omega
def geE (low:qaQ) (es:List Ent):List Ent:=es.filter fun e=>decide (¬Lt e.1 low)
theorem qsB {low:qaQ}(X Y:List Ent):geE low (X++Y)=geE low X++geE low Y:=List.filter_append _ _
theorem quC {low:qaQ}{X:List Ent}(h:∀e∈X,Lt e.1 low):geE low X=[]:=qqg fun e he h2=>h2 (h e he)
theorem quD {low:qaQ}{X:List Ent}(h:∀e∈X,¬Lt e.1 low):geE low X=X:=qm3 h
structure Vis (p0:HpP) (J:HpP→List Ent→Prop) (visit:HpP→(Ent×Unit)→Option (HpP×(Bool×Unit))) (st:List Ent→Ent→Option (List Ent)):Prop where
 keep:∀p out,J p out→∀ {d:Nat}(t:Tr d),Rp p0 t→Rp p t
 vis:∀p out e,J p out→e.1.length≤12→out.length<1000000→∃p',visit p (e,())=some (p',((st out e).isSome,()))∧J p' ((st out e).getD out)
 grow:∀out e out',st out e=some out'→out'.length≤out.length+1
theorem qm7 {d:Nat}:(KB:List qaQ)→(B:List (Tr d))→KB.length=B.length→qhI (suf KB (B.map fun c=>c.its))=B.flatMap fun c=>c.es
 |[],[],_=>rfl
 |[],_::_,h=>by cases h
 |_::_,[],h=>by cases h
 |k::KB,c::B,h=>by
  show qhI (It.sp k::(c.its++suf KB (B.map fun c=>c.its)))=c.es++B.flatMap fun c=>c.es;rw[qsh,qaR,qm7 KB B (by simpa using h)]
theorem zadd3 {h:Hnd}(h0:h.2.1=0) (a j:Nat):qX (qX h.2.1 (a:Int)) (j:Int)=qX h.2.1 ((a+j:Nat):Int):=by
 rw[h0,qbp,qbp,qed];omega
theorem qkr (ho:Odr N o) {p0:HpP}{J:HpP→List Ent→Prop}{visit:HpP→(Ent×Unit)→Option (HpP×(Bool×Unit))}{st:List Ent→Ent→Option (List Ent)}(V:Vis p0 J visit st) (low:qaQ): {d:Nat}→(M:Nat)→d<M→(t:Tr d)→Rp p0 t→Fil o t→Ord t→t.fill≤100→∀(p:HpP) (out:List Ent),J p out→out.length+t.es.length≤900000→
  Ret (fun r=>J r.1 (qj0 st out (geE low t.es)).1∧r.2.1=(qj0 st out (geE low t.es)).2) (qbw N M p (t.ptr,(low,(visit,()))))
 |_,0,h,_,_,_,_,_,_,_,_,_=>absurd h (Nat.not_lt_zero _)
 |0,M+1,_,.leaf i hh es,hr,hf,hord,hl,p,out,hJ,hlen=>by
  have hl:es.length≤100:=hl;have hn:=ho.n.lo;have rp:=V.keep p out hJ _ hr;obtain⟨a1,a2,a3⟩:=qfe rp.1;have e:=qcY (N:=N) rp hf;obtain⟨A,Mi,B,cu,se⟩:=qiz ho.n rp hord (by omega) low;have hes:es.length=A.length+(Mi++B).length:=by
   have:=congrArg List.length cu.eq;rw[zag]at this;exact this
  have hge:geE low es=Mi++B:=by
   rw[cu.eq,qsB,quC cu.lo,zaR];refine quD fun e he=>?_;rcases zaf.1 he with he|he
   ·rcases cu.mid with h|⟨m,h,h2⟩
    ·rw[h]at he;cases he
    ·rw[h,zah]at he;rw[he,h2];exact Lt.irr
   ·exact(cu.hi e he).asy
  rw[qb2]at hlen⊢
  rw[hge];show Ret _ (qbw N (Nat.succ M) p ((i,0),(low,(visit,()))));delta qbw;dsimp -zeta only;extract_lets c0;have e0:c0=(p,(true,())):=by show qy (qr N p ((i,0),())) _=_;rw[show qr N p ((i,0),())=_ from e,qg];rfl
  clear_value c0;subst e0;refine Ret.G (by rw[show qr N p ((i,0),())=_ from e,qf]) (Ret.Jv (Ret.Jv (Ret.G rfl (Ret.Rv ?_))));dsimp -zeta only;extract_lets c1 c2;have e1:c1=some (p,((A.length:Int),(!Mi.isEmpty,()))):=se;have e2:c2=(p,((A.length:Int),(!Mi.isEmpty,()))):=by show qy c1 _=_;rw[e1,qg]
  clear_value c1 c2;subst e1 e2;refine Ret.G (qf _) (Ret.Jv (Ret.Jv (Ret.Jv (Ret.Rv ?_))));dsimp -zeta only;extract_lets c3 c4;have e3:c3=(es.length:Int):=by show qaS (p.g1 i 0).1.2.2 (p.g1 i 0).1.2.1=_;rw[a1];exact rp.2.len
  have e4:c4=((Mi++B).length:Int):=by
   show qaS (qX (p.g1 i 0).1.2.1 c3) (qX (p.g1 i 0).1.2.1 (A.length:Int))=_;rw[e3,a1];dsimp only;rw[rp.2.lo,qbp,qbp,qdF,hes];omega
  clear_value c3 c4;subst e3 e4;refine Ret.G (by rw[a2,a3,qdv];simp;omega) ?_;refine Ret.it (fun k (s:HpP×(Int×Unit))=>∃(j:Nat) (out':List Ent),s.2=((j:Int),())∧J s.1 out'∧j+k=(Mi++B).length∧qj0 st out' ((Mi++B).drop j)=qj0 st out (Mi++B)∧out'.length+k≤900000) (m:=(Mi++B).length) ⟨0,out,rfl,hJ,by omega,by rw[zaN],by omega⟩ (by omega) fun k s ih _ hI hih=>?_;obtain⟨p',x,⟨⟩⟩:=s;obtain⟨j,out',hx,hJ',hj,hrun,hlo⟩:=hI;have hx:x=(j:Int):=congrArg Prod.fst hx;subst hx;have rp':=V.keep p' out' hJ' _ hr;dsimp -zeta only;extract_lets c5 c6;by_cases hk0:k=0
  ·subst hk0;rw[zaI (by omega)]at hrun;refine Ret.F (by rw[qan];exact decide_eq_false (by omega)) (Ret.mk ?_);rw[←hrun];exact⟨hJ',rfl⟩
  ·have hjl:j<(Mi++B).length:=by omega
   have hij:A.length+j<es.length:=by omega
   have hel:es[A.length+j]=(Mi++B)[j]:=by
    have:=cu.eq;subst this;simp
   have g:=rp'.2.get hij zP2 [];obtain⟨w1,w2,_⟩:=rp'.2.alive hij;obtain⟨p2,v1,v2⟩:=V.vis p' out' es[A.length+j] hJ' (hord.en.2 _ (List.getElem_mem hij)) (by omega);rw[hel]at v1 v2;have e5:c5=some (p2,((st out' (Mi++B)[j]).isSome,())):=by
    show visit p' (p'.g2 (p.g1 i 0).1.1 (qX (qX (p.g1 i 0).1.2.1 (A.length:Int)) (j:Int)),())=_;rw[a1];dsimp only;rw[zadd3 rp.2.lo,show p'.g2 hh.1 (qX hh.2.1 ((A.length+j:Nat):Int))=_ from g,hel];exact v1
   have e6:c6=(p2,((st out' (Mi++B)[j]).isSome,())):=by show qy c5 _=_;rw[e5,qg]
   clear_value c5 c6;subst e5 e6;rw[qd1 hjl]at hrun;refine Ret.G (by rw[qan];exact decide_eq_true (by omega)) (Ret.G (by rw[a1,show p'.s2 hh.1=true from w1,qbG];simp;simp at hjl;omega) (Ret.G (qf _) ?_));simp only[qj0]at hrun;cases hst:st out' (Mi++B)[j]with
   |none=>
    rw[hst]at hrun v2;refine Ret.G rfl (Ret.Rv (Ret.mk ?_));rw[←hrun];exact⟨v2,rfl⟩
   |some o2=>
    rw[hst]at hrun v2;refine Ret.F rfl (Ret.Rv ?_);rw[qa2 (by omega)];have:=V.grow _ _ _ hst;exact hih (k-1) _ (by omega) ⟨j+1,o2,rfl,v2,by omega,hrun,by omega⟩
 |d+1,M+1,hM,.node i hk hc ks cs,hr,hf,hord,hl,p,out,hJ,hlen=>by
  have hl2:cs.length≤100:=hl;have hn:=ho.n.lo;have rp:=V.keep p out hJ _ hr;obtain⟨a1,a2,a3⟩:=qfe rp.1;have e:=qcY (N:=N) rp hf;obtain⟨KA,KB,A,c,B,ps,ce⟩:=qjX ho.n rp hf hord (by omega) low;obtain⟨rfl,rfl,la,bd⟩:=ps;have lb:KB.length=B.length:=by have:(A++c::B).length=(KA++KB).length+1:=hf.1;simp[la]at this;omega
  have hcl:(A++c::B).length=A.length+(c::B).length:=zag;have hes:(Tr.node i hk hc (KA++KB) (A++c::B)).es=qhI (pre KA (A.map fun c=>c.its))++(c::B).flatMap fun c=>c.es:=by
   rw[show(Tr.node i hk hc (KA++KB) (A++c::B)).es=_ from qrN (c:=c) la,qm7 KB B lb];rfl
  have ee:=bdlt (bd 0);have hge:geE low (Tr.node i hk hc (KA++KB) (A++c::B)).es=(c::B).flatMap fun c=>geE low c.es:=by
   rw[hes,qsB,quC ee.1,zaR];unfold geE;rw[List.filter_flatMap]
  have hlen2:out.length+((c::B).flatMap fun c=>c.es).length≤900000:=by
   rw[hes,zag]at hlen;omega
  rw[hge];have okd:∀x∈c::B,Okc o x∧Rp p0 x∧Ord x:=fun x hx=>by
   refine⟨hf.2 x (zaa _ hx),hr.2.2.2 x (zaa _ hx),?_⟩;rcases List.append_of_mem hx with⟨B1,B2,hB⟩;have e1:A++c::B=(A++B1)++([x]++B2):=by rw[hB];simp
   have hlb:(c::B).length=B1.length+(B2.length+1):=by rw[hB];simp
   have hlk:(KA++KB).length=(A++B1).length+B2.length:=by
    rw[zag,zag];simp only[List.length_cons]at hlb;omega
   have e2:KA++KB=(KA++KB).take (A++B1).length++(KA++KB).drop (A++B1).length:=(zay _ _).symm;have h1:=hord;rw[e1,e2]at h1;exact kid_o (by rw[zae];omega) h1
  show Ret _ (qbw N (Nat.succ M) p ((i,0),(low,(visit,()))));delta qbw;dsimp -zeta only;extract_lets c0;have e0:c0=(p,(false,())):=by show qy (qr N p ((i,0),())) _=_;rw[show qr N p ((i,0),())=_ from e,qg];rfl
  clear_value c0;subst e0;refine Ret.G (by rw[show qr N p ((i,0),())=_ from e,qf]) (Ret.Jv (Ret.Jv (Ret.F rfl (Ret.Rv ?_))));dsimp -zeta only;extract_lets c7 c8 c9 c10 c11;have e7:c7=some (p,((A.length:Int),())):=ce;have e8:c8=(p,((A.length:Int),())):=by show qy c7 _=_;rw[e7,qg]
  have hclen:=rp.2.2.1.len;rw[zaH]at hclen;have e9:c9=((A++c::B).length:Int):=by show qaS (p.g1 i 0).2.2.1.2.2 (p.g1 i 0).2.2.1.2.1=_;rw[a1];exact hclen
  have e10:c10=qX hc.2.1 (A.length:Int):=by show qX (p.g1 i 0).2.2.1.2.1 c8.2.1=_;rw[e8,a1]
  have e11:c11=((c::B).length:Int):=by
   show qaS (qX (p.g1 i 0).2.2.1.2.1 c9) c10=_;rw[e9,e10,a1];dsimp only;rw[rp.2.2.1.lo,qbp,qbp,qdF,hcl];omega
  clear_value c7 c8 c9 c10 c11;subst e7 e8 e9 e10 e11;refine Ret.G (by rw[a2,a3,qf,qdv,qcz];simp;omega) ?_;refine Ret.it (fun k (s:HpP×(Int×Unit))=>∃(j:Nat) (out':List Ent),s.2=((j:Int),())∧J s.1 out'∧j+k=(c::B).length∧qj0 st out' (((c::B).drop j).flatMap fun c=>geE low c.es)=qj0 st out ((c::B).flatMap fun c=>geE low c.es)∧out'.length+(((c::B).drop j).flatMap fun c=>c.es).length≤900000) (m:=(c::B).length) ⟨0,out,rfl,hJ,by omega,by rw[zaN],by rw[zaN];exact hlen2⟩ (by simp only[hcl]at hl2;omega) fun k s ih _ hI hih=>?_;obtain⟨p',x,⟨⟩⟩:=s;obtain⟨j,out',hx,hJ',hj,hrun,hlo⟩:=hI;have hx:x=(j:Int):=congrArg Prod.fst hx;subst hx;have rp':=V.keep p' out' hJ' _ hr;dsimp -zeta only;extract_lets c12 c13;by_cases hk0:k=0
  ·subst hk0;rw[zaI (by omega)]at hrun;refine Ret.F (by rw[qan];exact decide_eq_false (by omega)) (Ret.mk ?_);rw[←hrun];exact⟨hJ',rfl⟩
  ·have hjl:j<(c::B).length:=by omega
   have hij:A.length+j<(A++c::B).length:=by omega
   have hel:(A++c::B)[A.length+j]=(c::B)[j]:=by simp
   obtain⟨k1,k2⟩:=kidn rp' hij;obtain⟨okc,rc,oc⟩:=okd _ (List.getElem_mem hjl);rw[qd1 hjl,List.flatMap_cons]at hrun hlo;rw[zag]at hlo;obtain⟨⟨p2,bb,⟨⟩⟩,v1,v2,v3⟩:=qkr ho V low M (by omega) (c::B)[j] rc okc.2.2 oc (by have:=okc.2.1;have:=ho.hi;omega) p' out' hJ' (by omega);dsimp only at v2 v3;have e12:c12=some (p2,(bb,())):=by
    show qbw N M p' (p'.g4 (p.g1 i 0).2.2.1.1 (qX (qX hc.2.1 (A.length:Int)) (j:Int)),(low,(visit,())))=_;rw[a1];dsimp only;rw[zadd3 rp.2.2.1.lo,k1,hel];exact v1
   have e13:c13=(p2,(bb,())):=by show qy c12 _=_;rw[e12,qg]
   clear_value c12 c13;subst e12 e13;refine Ret.G (by rw[qan];exact decide_eq_true (by omega)) (Ret.G (by rw[a1,k2,qbG];simp;simp at hjl;omega) (Ret.G (qf _) (Ret.Jv ?_)));rw[qp8]at hrun;cases bb with
   |false=>
    rw[←v3]at hrun;simp only[cond_false]at hrun;refine Ret.G rfl (Ret.Rv (Ret.mk ?_));rw[←hrun];exact⟨v2,v3⟩
   |true=>
    rw[←v3]at hrun;simp only[cond_true]at hrun;refine Ret.F rfl (Ret.Rv ?_);rw[qa2 (by simp only[hcl]at hl2;omega)];have h1:=qpY V.grow (geE low (c::B)[j].es) out';have h2:(geE low (c::B)[j].es).length≤(c::B)[j].es.length:=List.length_filter_le _ _;exact hih (k-1) _ (by omega) ⟨j+1,_,rfl,v2,by omega,hrun,by omega⟩
end
end Go.Proofs.Ytdiobaoelhdkoaa
namespace Go.Proofs.Ytdiobaoelhdkoaa
open Go.Vi
noncomputable section
variable {p q:HpP}{N o:Nat}
theorem Rp.up {F:List (Nat×Int)}{d:Nat}{t:Tr d}(h:Rp p t) (h1:Up (fun j=>(1,j)∈F) p.q1 q.q1) (h2:Up (fun j=>(2,j)∈F) p.q2 q.q2) (h3:Up (fun j=>(3,j)∈F) p.q3 q.q3) (h4:Up (fun j=>(4,j)∈F) p.q4 q.q4) (hn:∀x∈t.fp,x∉F):Rp q t:=by
 have f:Fr F p ((((p.u1 q.q1).u2 q.q2).u3 q.q3).u4 q.q4):=⟨rfl,rfl,rfl,rfl,rfl,h1,h2,h3,h4⟩;exact(h.fr f t hn).of rfl rfl rfl rfl
theorem qjh {α:Type}{q q':List (Option (List α))}{P:Int→Prop}(h:q'=q):Up P q q':=by rw[h];exact Up.refl
theorem depth {o:Nat}(ho:3≤o): {d:Nat}→(t:Tr d)→Fil o t→2≤t.fill→d+2≤t.es.length
 |0,.leaf _ _ es,_,h=>by rw[qb2];exact h
 |d+1,.node i hk hc ks cs,hf,h=>by
  have h:2≤cs.length:=h;have hl:cs.length=ks.length+1:=hf.1;match cs,ks,hl,h,hf with
  |c::e::B,k::KB,hl,h,hf=>
   have oc:=hf.2 c (.head _);have oe:=hf.2 e (.tail _ (.head _));have d1:=depth ho c oc.2.2 (by have:=oc.1;omega);have d2:=depth ho e oe.2.2 (by have:=oe.1;omega);have:(Tr.node i hk hc (k::KB) (c::e::B)).es=c.es++qhI (suf (k::KB) ((e::B).map fun c=>c.its)):=qrN (A:=[]) (KA:=[]) (B:=e::B) (KB:=k::KB) (c:=c) rfl;rw[this,qm7 _ _ (by simpa using hl.symm),zag,List.flatMap_cons,zag];omega
structure qsQ (o:Nat) (p:HpP) (b a:Int) {d:Nat}(t:Tr d) (h:Hnd):Prop where
 tre:Tre o p b t
 mp:Mp p a h t.es
 dis:∀x∈cell 2 h,x∉t.fp
theorem qsQ.dep {b a:Int}{d:Nat}{t:Tr d}{h:Hnd}(s:qsQ o p b a t h) (ho:3≤o):d≤t.es.length:=by
 by_cases hd:d=0
 ·omega
 ·have:=depth ho t s.tre.fil (s.tre.lo hd);omega
theorem qsQ.srt {b a:Int}{d:Nat}{t:Tr d}{h:Hnd}(s:qsQ o p b a t h):Srt t.es∧∀e∈t.es,e.1.length≤12:=⟨qjT s.tre.ord.pw,fun e he=>s.tre.ord.kl (.en e) (qfZ.1 he)⟩
theorem qsL {a:Int}{h:Hnd}{m:List Ent}{F F':List (Nat×Int)}(s:Mp p a h m) (r:qrD p q F F') (hd:∀x∈cell 2 h,x∉F):Mp q a h m∧∀x∈cell 2 h,x∉F':=by
 refine⟨⟨by rw[r.q7];exact s.box,qno s.sl r.k2 hd⟩,fun x hx hm=>?_⟩;rcases r.sub x hm with g|g
 ·exact hd x hx g
 ·obtain⟨rfl,h0⟩:=qda hx;have:=s.sl.lt;have g:qn p.q2≤h.1:=g;omega
theorem qs4 {a b:Int}{h h':Hnd}{m:List Ent}{d:Nat}{t:Tr d}(s:Tre o p b t) (r:MpR p q a h h' m) (hd:∀x∈cell 2 h,x∉t.fp):Tre o q b t∧∀x∈cell 2 h',x∉t.fp:=by
 refine⟨⟨by rw[r.q0];exact s.box,s.rp.up (F:=cell 2 h) (qjh r.q1) (qeV r.k2 fun x hx=>hx) (qjh r.q3) (qjh r.q4) fun x hx hc=>hd x hc hx,s.nd,s.fil,s.ord,s.hi,s.lo⟩,fun x hx hm=>?_⟩;obtain⟨rfl,h0⟩:=qda hx;rcases r.id with g|g
 ·rw[g]at hm h0;exact hd (2,h.1) (by rw[qbT h0];exact .head _) hm
 ·have:=Rp.old _ s.rp _ hm;have this:h'.1<qn p.q2:=this;omega
theorem op_ok (ho:Odr N o) {b a:Int}{d:Nat}{t:Tr d}{h:Hnd}(s:qsQ o p b a t h) (hl:t.es.length≤890) (kind w:Int) (v:qaQ):
  Ret (fun r=>r.2.1=true∧∃(d':Nat) (t':Tr d') (h':Hnd),qsQ o r.1 b a t' h'∧t'.es.length≤t.es.length+1) (qbf N p ((b,0),((a,0),((kind,(w,(v,()))),())))):=by
 have h3:=ho.lo;have hn:=ho.n.lo;have hdep:=s.dep h3;obtain⟨hsrt,hk12⟩:=s.srt;have cr:=qfu N v (by omega);delta qbf;dsimp -zeta only;extract_lets c0 c1 c2 c3 c4;refine Ret.G (by rw[cr,qf]) (Ret.J fun y0 g0=>?_);rw[cr,qg]at g0;have g0:y0=qau v:=g0;subst g0;refine Ret.B (fun hk=>?_) fun _=>Ret.B (fun hk=>?_) fun _=>?_
 ·
  obtain⟨⟨p1,ad,er,⟨⟩⟩,i1,i2,i3⟩:=qvI ho (by omega) s.tre (by omega) v w;dsimp only at i2 i3;have e0:c0=some (p1,(ad,(er,()))):=i1;have e1:c1=(p1,(ad,(er,()))):=by show qy c0 _=_;rw[e0,qg]
  clear_value c0 c1;subst e0 e1;refine Ret.G (qf _) (Ret.Jv (Ret.Jv (Ret.Jv (Ret.Rv ?_))));dsimp -zeta only;extract_lets c5 c6;by_cases hz:qau v=0
  ·obtain⟨d',t',j1,j2,j3,j4⟩:=i3 hz;injection j4 with j4 j5;injection j5 with j5;subst j4 j5;obtain⟨m1,m2⟩:=qsL s.mp j3 s.dis;have hpl:=qpC (v:=v) (w:=w) hsrt;obtain⟨⟨p2,ad2,⟨⟩⟩,k1,⟨h',k2⟩,k3⟩:=qvr ho.n m1 hsrt hk12 (by omega) v w (qqv hz);dsimp only at k2 k3;have e5:c5=some (p2,(ad2,())):=k1;have e6:c6=(p2,(ad2,())):=by show qy c5 _=_;rw[e5,qg]
   clear_value c5 c6;subst e5 e6;have z:eqI (qau v) 0=true:=by rw[hz,qa4];rfl
   refine Ret.G (by rw[qf,Bool.or_true]) (Ret.Jv (Ret.Jv (Ret.R fun h7 e=>Ret.mk ⟨?_,?_⟩)))
   ·dsimp only;rw[z,hz,k3,qa4,qlo];simp
   ·rw[z]at e;have e:h7=p2:=e;subst e;obtain⟨x1,x2⟩:=qs4 j1 k2 m2;exact⟨d',t',h',⟨x1,by rw[j2];exact k2.mp,x2⟩,by rw[j2,hpl];split<;>omega⟩
  ·have hp:=i2 hz;injection hp with hp1 hp2;injection hp2 with hp2 hp3;injection hp3 with hp3;subst hp1 hp2 hp3;have z:eqI (qau v) 0=false:=by rw[qa4];exact decide_eq_false hz
   refine Ret.G (by rw[z];rfl) (Ret.Jv (Ret.Jv (Ret.R fun h7 e=>Ret.mk ⟨?_,?_⟩)))
   ·dsimp only;rw[z,qa4,qlo];simp
   ·rw[z]at e;have e:h7=p1:=e;subst e;exact⟨d,t,h,s,by omega⟩
 ·
  by_cases hz:qau v=0
  ·obtain⟨⟨p2,ad2,⟨⟩⟩,k1,⟨h',k2⟩,k3⟩:=qvk ho.n s.mp hsrt hk12 (by omega) v;dsimp only at k2 k3;have e2:c2=some (p2,(ad2,())):=k1;have e3:c3=(p2,(ad2,())):=by show qy c2 _=_;rw[e2,qg]
   clear_value c2 c3;subst e2 e3;have z:eqI (qau v) 0=true:=by rw[hz,qa4];rfl
   refine Ret.G (by rw[qf,Bool.or_true]) (Ret.Jv (Ret.Jv (Ret.Jv (Ret.Jv (Ret.R fun h5 e=>?_)))));rw[z]at e;have e:h5=p2:=e;subst e;obtain⟨x1,x2⟩:=qs4 s.tre k2 s.dis;obtain⟨⟨p3,er,⟨⟩⟩,i1,i2,i3⟩:=qsr ho (by omega) x1 (by omega) v;dsimp only at i2 i3;obtain⟨d',t',j1,j2,j3,j4⟩:=i3 hz;obtain⟨m1,m2⟩:=qsL k2.mp j3 x2;have hdl:=qsf (v:=v) hsrt;extract_lets c7;have e7:c7=(p3,(er,())):=by show qy (qbu N h5 ((b,0),(v,()))) _=_;rw[i1,qg]
   clear_value c7;subst e7;refine Ret.G (by show qp (qbu N h5 ((b,0),(v,())))=true;rw[i1,qf]) (Ret.mk ⟨?_,d',t',h',⟨j1,by rw[j2];exact m1,m2⟩,by rw[j2];omega⟩);dsimp only;rw[z,hz,k3,j4,qa4];cases qgt v t.es<;>rfl
  ·have z:eqI (qau v) 0=false:=by rw[qa4];exact decide_eq_false hz
   refine Ret.G (by rw[z];rfl) (Ret.Jv (Ret.Jv (Ret.Jv (Ret.Jv (Ret.R fun h5 e=>?_)))));rw[z]at e;have e:h5=p:=e;subst e;obtain⟨⟨p3,er,⟨⟩⟩,i1,i2,i3⟩:=qsr ho (by omega) s.tre (by omega) v;dsimp only at i2 i3;have hp:=i2 hz;injection hp with hp1 hp2;injection hp2 with hp2;subst hp1 hp2;extract_lets c7;have e7:c7=(p3,(qau v,())):=by show qy (qbu N p3 ((b,0),(v,()))) _=_;rw[i1,qg]
   clear_value c7;subst e7;refine Ret.G (by show qp (qbu N p3 ((b,0),(v,())))=true;rw[i1,qf]) (Ret.mk ⟨?_,d,t,h,s,by omega⟩);dsimp only;rw[z,qa4];simp
 ·
  have tg:=qu1 ho (by omega) s.tre v;have mg:=qvh ho.n s.mp.sl v hk12 (by omega);obtain⟨m1,m2,m3⟩:=s.mp.get;generalize hx:(if qau v≠0 then(0,(qau v,()))else((qj v t.es).getD 0,(if qgt v t.es then(0:Int)else 4,())):Int×(Int×Unit))=xr at tg;have e4:c4=(p,xr):=by show qy (qcQ N p ((b,0),(v,()))) _=_;rw[tg,qg]
  clear_value c4;subst e4;refine Ret.G (by show qp (qcQ N p ((b,0),(v,())))=true;rw[tg,qf]) (Ret.Jv (Ret.Jv (Ret.Jv (Ret.Rv ?_))));dsimp -zeta only;extract_lets c8 c9;have e8:c8=some (p,((qj v t.es).getD 0,(qgt v t.es,()))):=by show qbS N p (p.g7 a 0,(v,()))=_;rw[m1];exact mg
  have e9:c9=(p,((qj v t.es).getD 0,(qgt v t.es,()))):=by show qy c8 _=_;rw[e8,qg]
  clear_value c8 c9;subst e8 e9;refine Ret.G (by rw[m2,m3,qf];rfl) (Ret.Jv (Ret.Jv (Ret.Rv (Ret.Jv (Ret.Jv (Ret.mk ⟨?_,d,t,h,s,by omega⟩))))));dsimp only;by_cases hz:qau v=0
  ·rw[if_neg (by simp[hz])]at hx;subst hx;rw[hz];simp only[qa4,qaM];cases hh:qgt v t.es with
   |true=>simp
   |false=>
    have:qj v t.es=none:=by
     unfold qgt at hh;cases hg:qj v t.es with
     |none=>rfl
     |some x=>rw[hg]at hh;cases hh
    rw[this];simp
  ·rw[if_pos hz]at hx;subst hx;simp only[qa4,qaM,decide_eq_false hz];simp[hz]
end
end Go.Proofs.Ytdiobaoelhdkoaa
namespace Go.Proofs.Ytdiobaoelhdkoaa
open Go.Vi
noncomputable section
variable {p q:HpP}{N o:Nat}
structure JV (p0:HpP) (n:Int) (p:HpP) (out:List Ent):Prop where
 q0:p.q0=p0.q0
 q1:p.q1=p0.q1
 q3:p.q3=p0.q3
 q4:p.q4=p0.q4
 q6:p.q6=p0.q6
 q7:p.q7=p0.q7
 q8:p.q8=p0.q8
 k2:Up (fun _=>False) p0.q2 p.q2
 box:∃h,qN p.q5 n=some [h]∧Sl p.q2 h out∧(h.1<0∨qn p0.q2≤h.1)
theorem row5 {i:Int}{a:Hnd}(h:qN p.q5 i=some [a]):p.g5 i 0=a∧p.s5 i=true:=by
 refine⟨?_,?_⟩
 ·show qJ (qy (qN p.q5 i) _) 0 _=_;rw[h,qg,qlS]
 ·show qp (qN p.q5 i)=_;rw[h,qf]
theorem JV.keep {p0:HpP}{n:Int}{out:List Ent}(j:JV p0 n p out) {d:Nat}(t:Tr d) (h:Rp p0 t):Rp p t:=
 h.up (F:=[]) (qjh j.q1) (j.k2.mono fun _ h=>h.elim) (qjh j.q3) (qjh j.q4) (by simp)
theorem JV.app {p0:HpP}{n:Int}{out:List Ent}(j:JV p0 n p out) (e:Ent) (ho:out.length<1000000):
  ∃h q' h',p.g5 n 0=h∧p.s5 n=true∧qaS h.2.2 h.2.1=(out.length:Int)∧qfF p.q2 h [e]=some (q',h')∧leI h.2.1 0=true∧qc1 h.2.2 (qn [e]) 32=true∧JV p0 n ((p.u2 q').u5 (qdD p.q5 n (qdz (qy (qN p.q5 n) []) 0 h'))) (out++[e]):=by
 obtain⟨h,b1,b2,b3⟩:=j.box;obtain⟨g1,g2⟩:=row5 b1;obtain⟨q',h',u1,u2,u3,u4,_⟩:=b2.app [e];have hr:=qf0 b2 [e] (b:=32) (by simp;omega);refine⟨h,q',h',g1,g2,b2.len,u1,hr.1,hr.2,j.q0,j.q1,j.q3,j.q4,j.q6,j.q7,j.q8,⟨fun i _ r hr=>u4.kp i (fun e=>?_) r (j.k2.kp i id r hr),Int.le_trans j.k2.ln u4.ln⟩,h',?_,u2,?_⟩
 ·have e:i=h.1:=e;have:=qP hr;omega
 ·rw[b1,qg,qlL];exact qar b1
 ·have:=j.k2.ln;rcases u3 with g|g
  ·rw[g];exact b3
  ·exact .inr (by omega)
structure Enr (p q:HpP) (h:Hnd) (out:List Ent):Prop where
 q0:q.q0=p.q0
 q1:q.q1=p.q1
 q7:q.q7=p.q7
 k2:Up (fun _=>False) p.q2 q.q2
 k3:Up (fun _=>False) p.q3 q.q3
 k4:Up (fun _=>False) p.q4 q.q4
 sl:Sl q.q2 h out
theorem qsQ.enr {b a:Int}{d:Nat}{t:Tr d}{h h':Hnd}{out:List Ent}(s:qsQ o p b a t h) (e:Enr p q h' out):qsQ o q b a t h:=
 ⟨⟨by rw[e.q0];exact s.tre.box,s.tre.rp.up (F:=[]) (qjh e.q1) (e.k2.mono fun _ h=>h.elim) (e.k3.mono fun _ h=>h.elim) (e.k4.mono fun _ h=>h.elim) (by simp),s.tre.nd,s.tre.fil,s.tre.ord,s.tre.hi,s.tre.lo⟩,⟨by rw[e.q7];exact s.mp.box,s.mp.sl.kp e.k2.kp fun _=>id⟩,s.dis⟩
abbrev stE (out:List Ent) (e:Ent):Option (List Ent):=some (out++[e])
theorem runE:(L out:List Ent)→qj0 stE out L=(out++L,true)
 |[],out=>by simp[qj0]
 |e::L,out=>by simp[qj0,runE L]
theorem visE {p0:HpP}{n:Int}:Vis p0 (JV p0 n) (fun p1=>(fun x2=>(qc2 N p1 (x2.1,((n,0),()))))) stE where
 keep p out j _ t h:=j.keep t h
 vis p out e j he ho:=by
  obtain⟨h,q',h',a1,a2,_,a3,a4,a5,a6⟩:=j.app e ho;refine⟨_,?_,a6⟩;simp only[qc2,qko N he,qg,qf];rw[show((e.1,e.2):Ent)=e from rfl,a1,a3,qf,qg,a2,a4,a5];simp only[zaw,cond_true,qdn]<;>rfl
 grow out e out' h:=by
  injection h with h;rw[←h];simp
theorem qu3 (x:qaQ):¬Lt x []:=by
 cases x with
 |nil=>exact Lt.irr
 |cons v x=>
  have:=qa0 ((x.length:Int)+1) 0;show ¬qai (v::x) []<0;simp only[qai];omega
theorem qmw (ho:Odr N o) {b:Int}{d:Nat}(hd:d<N) {t:Tr d}(h:Tre o p b t) (hl:t.es.length≤900):
  Ret (fun r=>Enr p r.1 r.2.1 t.es) (qbd N p ((b,0),())):=by
 obtain⟨b1,b2,b3⟩:=qqa h.box;delta qbd;refine Ret.R fun h0 e=>?_;replace e:h0=p.u5 (qdc p.q5 [zH]):=e;have q0':h0.q0=p.q0:=by rw[e];rfl
 have q1':h0.q1=p.q1:=by rw[e];rfl
 have q2':h0.q2=p.q2:=by rw[e];rfl
 have q3':h0.q3=p.q3:=by rw[e];rfl
 have q4':h0.q4=p.q4:=by rw[e];rfl
 have q7':h0.q7=p.q7:=by rw[e];rfl
 have j0:JV h0 (qn p.q5) h0 []:=⟨rfl,rfl,rfl,rfl,rfl,rfl,rfl,Up.refl,zH,by rw[e];exact qc7,Sl.nil,.inl (by decide)⟩;obtain⟨c1,c2,_⟩:=qqa (p:=h0) (b:=b) (by rw[q0'];exact h.box);have r0:Rp h0 t:=h.rp.of q1' q2' q3' q4';have:=qkr ho (visE (N:=N)) ([]:qaQ) N hd t r0 h.fil h.ord (by have:=h.hi;have:=ho.hi;omega) h0 [] j0 (by simp;omega);rw[quD (fun e _=>qu3 e.1),runE]at this;obtain⟨⟨q,bb,⟨⟩⟩,v1,v2,_⟩:=this;dsimp only at v2;extract_lets c0;have e0:c0=some (q,(bb,())):=by
  show qcB N h0 ((h0.g0 b 0).2.1,_)=_;rw[c1];exact v1
 clear_value c0;subst e0;obtain⟨hh,g1,g2,_⟩:=v2.box;obtain⟨f1,f2⟩:=row5 g1;refine Ret.G (by rw[b3,c2,qf];rfl) (Ret.R fun h1 e1=>?_);rw[qg]at e1;have e1:h1=q:=e1;subst e1;refine Ret.G f2 (Ret.mk ?_);dsimp only;rw[f1];exact⟨v2.q0.trans q0',v2.q1.trans q1',v2.q7.trans q7',by have:=v2.k2;rw[q2']at this;exact this,qjh (v2.q3.trans q3'),qjh (v2.q4.trans q4'),g2⟩
open Classical in
noncomputable def stR (high:qaQ) (limit:Int) (out:List Ent) (e:Ent):Option (List Ent):=if limit≤(out.length:Int)∨¬Lt e.1 high then none else some (out++[e])
theorem row6 {i:Int}{a:Int}(h:qN p.q6 i=some [a]):p.g6 i 0=a∧p.s6 i=true:=by
 refine⟨?_,?_⟩
 ·show qJ (qy (qN p.q6 i) _) 0 _=_;rw[h,qg,qlS]
 ·show qp (qN p.q6 i)=_;rw[h,qf]
theorem row3 {i:Int}{a:EP3}(h:qN p.q3 i=some [a]):p.g3 i 0=a∧p.s3 i=true:=by
 refine⟨?_,?_⟩
 ·show qJ (qy (qN p.q3 i) _) 0 _=_;rw[h,qg,qlS]
 ·show qp (qN p.q3 i)=_;rw[h,qf]
theorem visR (hN:Nb N) {p0:HpP}{n n6 n3 limit:Int}{high:qaQ}(h6:qN p0.q6 n6=some [limit]) (h3:qN p0.q3 n3=some [high]):Vis p0 (JV p0 n) (fun p4=>(fun x5=>(qce N p4 (x5.1,((n,0),((n6,0),((n3,0),()))))))) (stR high limit) where
 keep p out j _ t h:=j.keep t h
 vis p out e j he ho:=by
  have hn:=hN.lo;obtain⟨h,q',h',a1,a2,al,a3,a4,a5,a6⟩:=j.app e ho;obtain⟨l1,l2⟩:=row6 (p:=p) (i:=n6) (a:=limit) (by rw[j.q6];exact h6);obtain⟨k1,k2⟩:=row3 (p:=p) (i:=n3) (a:=high) (by rw[j.q3];exact h3);have hc:=qfk N e.1 high (by omega) hN.hi;simp only[qce,qko N he,qg,qf,l1,l2,k1,k2,a1,a2,al,hc,qak,qdn,Bool.or_true,zaw,Bool.true_and,cond_true];rw[show((e.1,e.2):Ent)=e from rfl,a3,qf,qg,a4,a5];unfold stR;rw[qdX,qdX];by_cases hq:limit≤(out.length:Int)∨¬Lt e.1 high
  ·rw[if_pos hq];refine⟨p,?_,j⟩;have:(decide (limit≤(out.length:Int))||decide (0≤qai e.1 high))=true:=by
    rw[Bool.or_eq_true,decide_eq_true_eq,decide_eq_true_eq];rcases hq with hq|hq
    ·exact .inl hq
    ·exact .inr (by unfold Lt at hq;omega)
   rw[this];rfl
  ·rw[if_neg hq];refine⟨_,?_,a6⟩;have:(decide (limit≤(out.length:Int))||decide (0≤qai e.1 high))=false:=by
    rw[Bool.or_eq_false_iff,decide_eq_false_iff_not,decide_eq_false_iff_not];rw[not_or,Classical.not_not]at hq;exact⟨hq.1,by have:=hq.2;unfold Lt at this;omega⟩
   rw[this];rfl
 grow out e out' h:=by
  unfold stR at h;split at h
  ·cases h
  ·injection h with h;rw[←h];simp
end
end Go.Proofs.Ytdiobaoelhdkoaa
namespace Go.Proofs.Ytdiobaoelhdkoaa
open Go.Vi
noncomputable section
variable {p q:HpP}{N o:Nat}
theorem qts (ho:Odr N o) {b:Int}{d:Nat}(hd:d<N) {t:Tr d}(h:Tre o p b t) (hl:t.es.length≤900) (low high:qaQ) (limit:Int):
  Ret (fun r=>∃out,Enr p r.1 r.2.1 out∧(qau low≠0→out=[]∧r.2.2.1=qau low)∧(qau low=0→qau high≠0→out=[]∧r.2.2.1=qau high)∧(qau low=0→qau high=0→out=(qj0 (stR high limit) [] (geE low t.es)).1∧r.2.2.1=0)) (qcq N p ((b,0),(low,(high,(limit,()))))):=by
 have hn:=ho.n.lo;have hl0:=qeM N low (by omega);have hl1:=qeM N high (by omega);obtain⟨b1,b2,b3⟩:=qqa h.box;delta qcq;refine Ret.R fun h0 e=>?_;replace e:h0=(p.u3 (qdc p.q3 [high])).u6 (qdc p.q6 [limit]):=e;obtain⟨f1,f2⟩:=row3 (p:=h0) (i:=qn p.q3) (a:=high) (by rw[e];exact qc7);have en0:Enr p h0 zH []:=by rw[e];exact⟨rfl,rfl,rfl,Up.refl,Up.add,Up.refl,Sl.nil⟩
 refine Ret.G f2 ?_;refine Ret.it (fun k (s:Int×Unit)=>∃i:Nat,s=((i:Int),())∧i+k=2∧(1≤i→qau low=0)∧(2≤i→qau high=0)) (m:=2) ⟨0,rfl,by omega,by omega,by omega⟩ (by omega) fun k s ih _ hI hih=>?_;obtain⟨i,rfl,hi,hz1,hz2⟩:=hI;dsimp -zeta only;extract_lets c0;by_cases hk0:k=0
 ·subst hk0;have z1:=hz1 (by omega);have z2:=hz2 (by omega);refine Ret.F (by rw[qan];exact decide_eq_false (by omega)) (Ret.R fun h3 e3=>?_);replace e3:h3=h0.u5 (qdc h0.q5 [zH]):=e3;have q0':h3.q0=p.q0:=by rw[e3,e];rfl
  have q1':h3.q1=p.q1:=by rw[e3,e];rfl
  have q2':h3.q2=p.q2:=by rw[e3,e];rfl
  have q3':h3.q3=qdc p.q3 [high]:=by rw[e3,e];rfl
  have q4':h3.q4=p.q4:=by rw[e3,e];rfl
  have q7':h3.q7=p.q7:=by rw[e3,e];rfl
  have j0:JV h3 (qn h0.q5) h3 []:=⟨rfl,rfl,rfl,rfl,rfl,rfl,rfl,Up.refl,zH,by rw[e3];exact qc7,Sl.nil,.inl (by decide)⟩;obtain⟨g1,g2,_⟩:=qqa (p:=h3) (b:=b) (by rw[q0'];exact h.box);have r0:Rp h3 t:=h.rp.up (F:=[]) (qjh q1') (qjh q2') (by rw[q3'];exact Up.add) (qjh q4') (by simp);have vR:Vis h3 (JV h3 (qn h0.q5)) _ (stR high limit):=visR (n:=qn h0.q5) (n6:=qn p.q6) (n3:=qn p.q3) (limit:=limit) (high:=high) ho.n (by rw[e3,e];exact qc7) (by rw[q3'];exact qc7);have:=qkr ho vR low N hd t r0 h.fil h.ord (by have:=h.hi;have:=ho.hi;omega) h3 [] j0 (by simp;omega);obtain⟨⟨q,bb,⟨⟩⟩,v1,v2,_⟩:=this;dsimp only at v2;have ea:qcB N h3 ((h3.g0 b 0).2.1,(low,((fun p4=>(fun x5=>(qce N p4 (x5.1,(((qn h0.q5),0),(((qn p.q6),0),(((qn p.q3),0),()))))))),())))=some (q,(bb,())):=by
   rw[g1];exact v1
  obtain⟨hh,k1,k2,_⟩:=v2.box;obtain⟨x1,x2⟩:=row5 k1;rw[ea];refine Ret.G (by rw[b3,g2,qf];rfl) (Ret.Jv (Ret.R fun h5 e5=>?_));rw[qg]at e5;have e5:h5=q:=e5;subst e5;refine Ret.G x2 (Ret.mk ⟨_,?_,fun h=>absurd z1 h,fun _ h=>absurd z2 h,fun _ _=>⟨rfl,rfl⟩⟩);dsimp only;rw[x1];exact⟨v2.q0.trans q0',v2.q1.trans q1',v2.q7.trans q7',by have:=v2.k2;rw[q2']at this;exact this,by rw[v2.q3,q3'];exact Up.add,qjh (v2.q4.trans q4'),k2⟩
 ·have qN:qJ ([low,(h0.g3 (qn p.q3) 0)]:List EP3) (i:Int) ([]:List qi)=if i=0 then low else high:=by
   rw[f1];have:i=0∨i=1:=by omega
   rcases this with rfl|rfl
   ·exact qb0 (i:=0) _ (by simp)
   ·exact qb0 (i:=1) _ (by simp)
  have ec:c0=some ((qau (if i=0 then low else high),()),()):=by
   show qZ N (qJ ([low,(h0.g3 (qn p.q3) 0)]:List EP3) (i:Int) ([]:List qi),())=_;rw[qN];split
   ·exact hl0
   ·exact hl1
  clear_value c0;subst ec;refine Ret.G (by rw[qan];exact decide_eq_true (by omega)) (Ret.G (by rw[qbG];exact decide_eq_true (by omega)) (Ret.G (qf _) (Ret.Jv ?_)));rw[qg];refine Ret.B (fun hc=>Ret.mk ⟨[],en0,?_⟩) fun hc=>?_
  ·rw[qaM]at hc;have hc:qau (if i=0 then low else high)≠0:=by simpa using hc
   dsimp only;by_cases h0:i=0
   ·rw[if_pos h0]at hc⊢
    exact⟨fun _=>⟨rfl,rfl⟩,fun h=>absurd h hc,fun h=>absurd h hc⟩
   ·rw[if_neg h0]at hc⊢
    have z:=hz1 (by omega);exact⟨fun h=>absurd z h,fun _ _=>⟨rfl,rfl⟩,fun _ h=>absurd h hc⟩
  ·rw[qaM]at hc;have hc:qau (if i=0 then low else high)=0:=by simpa using hc
   rw[qa2 (by omega)];refine hih (k-1) _ (by omega) ⟨i+1,rfl,by omega,fun _=>?_,fun _=>?_⟩
   ·by_cases h0:i=0
    ·rw[if_pos h0]at hc;exact hc
    ·exact hz1 (by omega)
   ·rw[if_neg (by omega)]at hc;exact hc
open Classical in
noncomputable def rsR (low high:qaQ) (limit:Int) (out:List Ent) (e:Ent):List Ent:=if(¬Lt e.1 low∧Lt e.1 high)∧(out.length:Int)<limit then out++[e]else out
theorem qrY {low high:qaQ}{limit:Int}:(L out:List Ent)→(∀e∈L,limit≤(out.length:Int)∨¬Lt e.1 high)→L.foldl (rsR low high limit) out=out
 |[],_,_=>rfl
 |e::L,out,h=>by
  rw[List.foldl_cons];have:rsR low high limit out e=out:=by
   unfold rsR;rw[if_neg];rintro⟨⟨_,h1⟩,h2⟩;rcases h e (.head _)with g|g
   ·omega
   ·exact g h1
  rw[this];exact qrY L out fun x hx=>h x (.tail _ hx)
theorem quO {low high:qaQ}{limit:Int}:(L out:List Ent)→Srt L→(∀e∈L,¬Lt e.1 low)→L.foldl (rsR low high limit) out=(qj0 (stR high limit) out L).1
 |[],_,_,_=>rfl
 |e::L,out,hs,hl=>by
  obtain⟨h1,h2⟩:=List.pairwise_cons.1 hs;rw[List.foldl_cons,qj0];unfold stR;by_cases hq:limit≤(out.length:Int)∨¬Lt e.1 high
  ·rw[if_pos hq];have:rsR low high limit out e=out:=by
    unfold rsR;rw[if_neg];rintro⟨⟨_,h1⟩,h2⟩;rcases hq with g|g
    ·omega
    ·exact g h1
   rw[this];refine qrY L out fun x hx=>?_;rcases hq with g|g
   ·exact .inl g
   ·exact .inr fun hx2=>g ((h1 x hx).tr hx2)
  ·rw[if_neg hq];rw[not_or,Classical.not_not]at hq;have:rsR low high limit out e=out++[e]:=by
    unfold rsR;rw[if_pos ⟨⟨hl e (.head _),hq.2⟩,by omega⟩]
   rw[this];exact quO L (out++[e]) h2 fun x hx=>hl x (.tail _ hx)
theorem qvq {low high:qaQ}{limit:Int}:(L out:List Ent)→L.foldl (rsR low high limit) out=(geE low L).foldl (rsR low high limit) out
 |[],_=>rfl
 |e::L,out=>by
  rw[List.foldl_cons];by_cases h:Lt e.1 low
  ·have e1:geE low (e::L)=geE low L:=by unfold geE;rw[List.filter_cons_of_neg (by simpa using h)]
   have e2:rsR low high limit out e=out:=by unfold rsR;rw[if_neg (fun g=>g.1.1 h)]
   rw[e1,e2];exact qvq L out
  ·have e1:geE low (e::L)=e::geE low L:=by unfold geE;rw[List.filter_cons_of_pos (by simpa using h)]
   rw[e1,List.foldl_cons];exact qvq L _
theorem qul {low high:qaQ}{limit:Int}{m:List Ent}(hs:Srt m):m.foldl (rsR low high limit) []=(qj0 (stR high limit) [] (geE low m)).1:=by
 rw[qvq];refine quO _ _ (hs.filter _) fun e he=>?_;simpa using(List.mem_filter.1 he).2
theorem quP (ho:Odr N o) (p:HpP):∃q,qaZ N p ((o:Int),())=some (q,((qn p.q0,0),(0,())))∧Tre o q (qn p.q0) (Tr.leaf (qn p.q1) zH [])∧q.q7=p.q7:=by
 have h3:=ho.lo;have h16:=ho.hi;refine⟨(p.a0 [((o:Int),((qn p.q1,0),(0,())))]).u1 (qdc p.q1 [zP1]),?_,⟨qc7,⟨qc7,Sl.nil⟩,by show((1,qn p.q1)::cell 2 zH).Nodup;rw[qqk];simp,trivial,⟨List.Pairwise.nil,fun x hx=>by cases hx⟩,zaD _,fun h=>absurd rfl h⟩,rfl⟩;simp only[qaZ,qak];rw[qa7 (by rw[qan,qan,Bool.or_eq_false_iff,decide_eq_false_iff_not,decide_eq_false_iff_not];omega)]
theorem qvj (N:Nat) (p:HpP) {x:Int}(h:x<3∨16<x):qaZ N p (x,())=some (p,((-1,0),(1,()))):=by
 simp only[qaZ,qak];rw[qa3 (by rw[qan,qan,Bool.or_eq_true,decide_eq_true_eq,decide_eq_true_eq];exact h)]
theorem qs3 (ho:Odr N o) {b:Int}{d:Nat}(hd:d<N) (hd2:d≤1000) {t:Tr d}(h:Tre o p b t):
  ∃y3 y4:Int,qc4 N p ((b,0),())=some (p,(((t.es.length:Int),((d:Int)+1,((d:Int)+1,(y3,(y4,()))))),()))∧(d≠0→(((o+1)/2:Nat):Int)≤y3∧y4≤(o:Int)):=by
 obtain⟨b1,b2,b3⟩:=qqa h.box;obtain⟨⟨p1,⟨y0,y1,y2,y3,y4,⟨⟩⟩,⟨⟩⟩,s1,s2,s3,s4,s5,s6⟩:=qqq ho N hd hd2 t h.rp h.fil (by have:=h.hi;have:=ho.hi;omega);dsimp only at s2 s3 s4 s5 s6;subst s3 s4;rw[s2]at s1;have s1:qfY N p (t.ptr,())=_:=s1;refine⟨y3,y4,?_,s5⟩;simp only[qc4,b1,b2,b3,s1,qf,qg,zaw,cond_true,qdn]
theorem eqEnt (hN:Nb N) (m:List Ent) (hk:∀e∈m,e.1.length≤12) (hl:m.length≤1000):qat N (m,(m,()))=some ((true,()),()):=by
 have hn:=hN.lo;have h1:∀e∈m,qah N (e,(e,()))=some ((true,()),()):=fun e he=>by
  have:=hk e he;have hr:=qn4 N e.1 e.1 (by omega) (by omega);simp only[qah,hr,qf,qg,qa4];simp
 have h2:qab N (m,(m,((fun x0=>(qkj (fun y1=>y1.1) (qah N x0))),())))=some ((true,()),()):=by
  have:Ret (fun r=>r=((true,()),())) (qab N (m,(m,((fun x0=>(qkj (fun y1=>y1.1) (qah N x0))),())))):=by
   delta qab;refine Ret.F (by rw[qaM];simp) ?_;refine Ret.it (fun k (s:Int×Unit)=>∃i:Nat,s=((i:Int),())∧i+k=m.length) (m:=m.length) ⟨0,rfl,by omega⟩ (by omega) fun k s ih _ hI hih=>?_;obtain⟨i,rfl,hi⟩:=hI;by_cases hk0:k=0
   ·subst hk0;exact Ret.F (qk9 (xs:=m) (by omega)) (Ret.mk rfl)
   ·have hil:i<m.length:=by omega
    refine Ret.G (qkT (xs:=m) hil) (Ret.G (qer (xs:=m) hil) (Ret.G (qer (xs:=m) hil) ?_));dsimp only;rw[qb0 _ hil,h1 _ (List.getElem_mem hil),qeE];refine Ret.G (qf _) ?_;rw[Option.map_some,qg,qa2 (by omega)];exact Ret.F rfl (hih (k-1) _ (by omega) ⟨i+1,rfl,by omega⟩)
  obtain⟨r,e,rfl⟩:=this;exact e
 simp only[qat,h2,qf,qg,cond_true]
end
end Go.Proofs.Ytdiobaoelhdkoaa
namespace Go.Proofs.Ytdiobaoelhdkoaa
open Go.Vi
noncomputable section
variable {N:Nat}
theorem law19 (hN:Nb N) (order:Int) (ops:List qmI) (low high:qaQ) (limit:Int):
  qag N (order,(ops,(low,(high,(limit,())))))=some (true,()):=by
 suffices Ret (fun r=>r=(true,())) (qag N (order,(ops,(low,(high,(limit,())))))) by
  obtain⟨r,e,rfl⟩:=this;exact e
 have hn:=hN.lo;have ho3:Odr N 3:=⟨hN,by omega,by omega⟩;delta qag;try dsimp -zeta only
 extract_lets c0 c1;have hmin:qo9 (qn ops) 400=((min ops.length 400:Nat):Int):=by
  rw[qe8,qv];split<;>omega
 have e0:c0=ops.take (min ops.length 400):=by show qb6 ops 0 (qo9 (qn ops) 400)=_;rw[hmin,qtH]
 have e1:c1=((min ops.length 400:Nat):Int):=by show qn c0=_;rw[e0,qv,zae];omega
 clear_value c0 c1;subst e0 e1;generalize hnn:min ops.length 400=n at *
 refine Ret.R fun (h0:HpP) z0=>?_;have hq0:qn h0.q0=0:=by rw[z0,qv];rfl
 obtain⟨h3,n1,n2,n3⟩:=quP ho3 h0;have n1:qaZ N h0 (3,())=some (h3,((qn h0.q0,0),(0,()))):=n1;extract_lets c2;have e2:c2=(h3,((qn h0.q0,0),(0,()))):=by show qy (qaZ N h0 (3,())) _=_;rw[n1,qg]
 clear_value c2;subst e2;have ep:eqI (qn h0.q0) (-1)=false:=by rw[hq0,qa4];rfl
 have z00:neI 0 0=false:=by rw[qaM];rfl
 refine Ret.G (by rw[n1,qf]) (Ret.Jv (Ret.Jv ?_));try dsimp -zeta only
 extract_lets c3;have e3:c3=true:=by show(!((neI 0 0)||(eqI (qn h0.q0) (-1))))=true;rw[z00,ep];rfl
 clear_value c3;subst e3;refine Ret.Rv ?_;obtain⟨⟨h5,hh,⟨⟩⟩,t1,t2⟩:=qmw ho3 (by omega) n2 (by rw[qb2];simp);dsimp only at t2;rw[qb2]at t2;extract_lets c4 c5;have e4:c4=(h5,(hh,())):=by show qy (qbd N h3 ((qn h0.q0,0),())) _=_;rw[t1,qg]
 have e5:c5=h5:=by show bfP true c4.1 h3=_;rw[e4];rfl
 clear_value c4 c5;subst e4 e5;refine Ret.G (by rw[t1,qf];rfl) (Ret.Jv (Ret.F (by
  dsimp only;rw[z00,ep,t2.sl.len,qan];rfl) (Ret.Rv ?_)))
 try dsimp -zeta only
 by_cases hbad:order<3∨16<order
 ·have hb:=qvj N c5 hbad;extract_lets c6;have e6:c6=(c5,((-1,0),(1,()))):=by show qy (qaZ N c5 (order,())) _=_;rw[hb,qg]
  clear_value c6;subst e6;refine Ret.G (by rw[hb,qf]) (Ret.Jv (Ret.Jv (Ret.Jv (Ret.Rv (Ret.Jv (Ret.G (by
   rw[qan,qan,Bool.or_eq_true,decide_eq_true_eq,decide_eq_true_eq];exact hbad) (Ret.mk ?_)))))))
  dsimp only;rw[qa4,qa4];rfl
 obtain⟨o,rfl⟩:∃o:Nat,order=(o:Int):=⟨order.toNat,by omega⟩;have ho:Odr N o:=⟨hN,by omega,by omega⟩;have hq5:(0:Int)≤qn c5.q0:=by rw[qv];omega
 obtain⟨h9,m1,m2,m3⟩:=quP ho c5;extract_lets c6;have e6:c6=(h9,((qn c5.q0,0),(0,()))):=by show qy (qaZ N c5 ((o:Int),())) _=_;rw[m1,qg]
 clear_value c6;subst e6;have ep5:eqI (qn c5.q0) (-1)=false:=by rw[qa4];exact decide_eq_false (by omega)
 refine Ret.G (by rw[m1,qf]) (Ret.Jv (Ret.Jv (Ret.Jv (Ret.Rv (Ret.Jv (Ret.F (by
  rw[qan,qan,Bool.or_eq_false_iff,decide_eq_false_iff_not,decide_eq_false_iff_not];omega) (Ret.Jv (Ret.F (by
   dsimp only;rw[ep5,z00];rfl) (Ret.R fun h12 g12=>?_)))))))))
 replace g12:h12=h9.u7 (qdc h9.q7 [zH]):=g12;try dsimp -zeta only
 refine Ret.G (by rw[hmin,qv,qdv];exact decide_eq_true (by omega)) ?_;have b0:qsQ o h12 (qn c5.q0) (qn h9.q7) (Tr.leaf (qn c5.q1) zH []) zH:=by
  rw[g12];exact⟨⟨m2.box,m2.rp.of rfl rfl rfl rfl,m2.nd,m2.fil,m2.ord,m2.hi,m2.lo⟩,⟨qc7,by rw[qb2];exact Sl.nil⟩,fun x hx=>by cases hx⟩
 generalize hbb:qn c5.q0=b at *
 generalize haa:qn h9.q7=a at *
 refine Ret.it (fun k (s:HpP×(Int×Unit))=>∃i:Nat,s.2=((i:Int),())∧i+k=n∧∃(d:Nat) (t:Tr d) (h:Hnd),qsQ o s.1 b a t h∧t.es.length≤i) (m:=n) ⟨0,rfl,by omega,0,_,zH,b0,by rw[qb2];simp⟩ (by omega) fun k s ih _ hI hih=>?_;obtain⟨p,x,⟨⟩⟩:=s;obtain⟨i,hx,hi,d,t,h,bo,hle⟩:=hI;have hx:x=(i:Int):=congrArg Prod.fst hx;subst hx;have hdep:=bo.dep (by omega);try dsimp -zeta only
 extract_lets c7 c8 c9 c10 c11 c12 c13;by_cases hk0:k=0
 ·subst hk0;refine Ret.F (by rw[qan];exact decide_eq_false (by omega)) ?_;obtain⟨⟨p1,h1,⟨⟩⟩,u1,u2⟩:=qmw ho (by omega) bo.tre (by omega);dsimp only at u2;have bo1:=bo.enr u2;obtain⟨hsrt,hk12⟩:=bo1.srt;obtain⟨x1,x2,x3⟩:=bo1.mp.get;have e9:c9=(p1,(h1,())):=by show qy (qbd N p ((b,0),())) _=_;rw[u1,qg]
  have e11:c11=some t.es:=by show qfS (qR ksP c9.1) (.slice qz) (.sl 2 2) c9.2.1=_;rw[e9];exact qkI p1 u2.sl
  have e12:c12=some t.es:=by show qfS (qR ksP c9.1) (.slice qz) (.sl 2 2) (c9.1.g7 a 0)=_;rw[e9,x1];exact qkI p1 bo1.mp.sl
  have e13:c13=some ((true,()),()):=by
   show qat N (qy c11 [],(qy c12 [],()))=_;rw[e11,e12,qg,eqEnt hN t.es hk12 (by omega)]
  clear_value c7 c8 c9 c10 c11 c12 c13;subst e9 e11 e12 e13;refine Ret.G (by
   rw[u1,qf,qf,qf];dsimp only;rw[x2,u2.q7,qcz];rfl) (Ret.Jv (Ret.F (by rw[qg];rfl) (Ret.Rv ?_)))
  try dsimp -zeta only
  obtain⟨⟨p2,h2,er,⟨⟩⟩,v1,out,v2,v3,v4,v5⟩:=qts ho (by omega) bo1.tre (by omega) low high limit;dsimp only at v2 v3 v4 v5;have bo2:=bo1.enr v2;extract_lets c16;have e16:c16=(p2,(h2,(er,()))):=by show qy (qcq N p1 ((b,0),(low,(high,(limit,()))))) _=_;rw[v1,qg]
  clear_value c16;subst e16;refine Ret.G (by show qp (qcq N p1 ((b,0),(low,(high,(limit,())))))=true;rw[v1,qf]) (Ret.Jv (Ret.Jv (Ret.Jv (Ret.Jv (Ret.Jv (Ret.Rv ?_))))));have cl:=qfu N low (by omega);have ch:=qfu N high (by omega);obtain⟨y1,y2,y3⟩:=bo2.mp.get;refine Ret.it (fun k (s:HpP×(Int×Unit))=>∃i:Nat,s=(p2,((i:Int),()))∧i+k=2∧(1≤i→qau low=0)∧(2≤i→qau high=0)) (m:=2) ⟨0,rfl,by omega,by omega,by omega⟩ (by omega) fun k s ih _ hI hih=>?_;obtain⟨i,rfl,hi,hz1,hz2⟩:=hI;try dsimp -zeta only
  extract_lets c17 c18;have e18:c18=(t.es.length:Int):=by show qaS (p2.g7 a 0).2.2 (p2.g7 a 0).2.1=_;rw[y1];exact bo2.mp.sl.len
  by_cases hk0:k=0
  ·subst hk0;have z1:=hz1 (by omega);have z2:=hz2 (by omega);obtain⟨w1,w2⟩:=v5 z1 z2;subst w2;have hout:t.es.foldl (rsR low high limit) []=out:=by rw[w1];exact qul hsrt
   have hoe:∀e∈out,e.1.length≤12:=fun e he=>by
    rw[←hout]at he;have:∀(L O:List Ent),e∈L.foldl (rsR low high limit) O→e∈O∨e∈L:=by
     intro L;induction L with
     |nil=>exact fun O h=>.inl h
     |cons y L ih=>
      intro O h;rw[List.foldl_cons]at h;rcases ih _ h with g|g
      ·unfold rsR at g;split at g
       ·rcases zaf.1 g with g|g
        ·exact .inl g
        ·rw[zah.1 g];exact .inr (.head _)
       ·exact .inl g
      ·exact .inr (.tail _ g)
    rcases this _ _ he with g|g
    ·cases g
    ·exact hk12 e g
   clear_value c17 c18;subst e18;refine Ret.F (by rw[qan];exact decide_eq_false (by omega)) (Ret.G y2 ?_);refine Ret.it (fun k (s:HpP×(Hnd×(Int×Unit)))=>∃(i:Nat) (want:List Ent),s.2.2=((i:Int),())∧i+k=t.es.length∧Sl s.1.q2 s.2.1 want∧(s.2.1.1<0∨qn p2.q2≤s.2.1.1)∧Up (fun _=>False) p2.q2 s.1.q2∧want=(t.es.take i).foldl (rsR low high limit) []∧want.length≤i) (m:=t.es.length) ⟨0,[],rfl,by omega,Sl.nil,.inl (by show(-1:Int)<0;omega),Up.refl,by rw[List.take_zero];rfl,zax _⟩ (by omega) fun k s ih _ hI hih=>?_;obtain⟨p3,hw,x,⟨⟩⟩:=s;obtain⟨i,want,hx,hi,sw,hwn,up3,hwt,hwl⟩:=hI;have hx:x=(i:Int):=congrArg Prod.fst hx;subst hx;dsimp only at sw hwn up3;have sm:Sl p3.q2 h t.es:=bo2.mp.sl.kp up3.kp fun _=>id;have so:Sl p3.q2 h2 out:=v2.sl.kp up3.kp fun _=>id;try dsimp -zeta only
   extract_lets c19 c20 c21 c22 c23 c24 c25 c26 c27;by_cases hk0:k=0
   ·subst hk0;rw[zan (by omega),hout]at hwt;subst hwt;have e25:c25=some want:=qkI p3 so;have e26:c26=some want:=qkI p3 sw;have e27:c27=some ((true,()),()):=by
     show qat N (qy c25 [],(qy c26 [],()))=_;rw[e25,e26,qg,eqEnt hN want hoe (by omega)]
    clear_value c19 c20 c21 c22 c23 c24 c25 c26 c27;subst e25 e26 e27;refine Ret.F (by rw[qan];exact decide_eq_false (by omega)) (Ret.G (by rw[qf,qf];simp) (Ret.mk ?_));rw[qg,qa4];rfl
   ·have hil:i<t.es.length:=by omega
    have g:=sm.get hil zP2 [];obtain⟨l1,l2,_⟩:=sm.alive hil;have e19:c19=t.es[i]:=by show p3.g2 (p2.g7 a 0).1 (qX (p2.g7 a 0).2.1 (i:Int))=_;rw[y1];exact g
    have hk:=hk12 _ (List.getElem_mem hil);have e20:c20=some ((qai t.es[i].1 low,()),()):=by show qC N (c19.1,(low,()))=_;rw[e19];exact qjc hN hk
    have e21:c21=decide (0≤qai t.es[i].1 low):=by show leI 0 (qy c20 _).1.1=_;rw[e20,qg,qdX]
    have e22:c22=some ((qai t.es[i].1 high,()),()):=by show qC N (c19.1,(high,()))=_;rw[e19];exact qjc hN hk
    obtain⟨q',h',r1,r2,r3,r4,_⟩:=sw.app [t.es[i]];have hroom:=qf0 sw [t.es[i]] (b:=32) (by simp;omega);have e23:c23=some (q',h'):=by show qfF p3.q2 hw [c19]=_;rw[e19];exact r1
    have e24:c24=(q',h'):=by show qy c23 _=_;rw[e23,qg]
    clear_value c19 c20 c21 c22 c23 c24 c25 c26 c27;subst e19 e20 e21 e22 e23 e24;refine Ret.G (by rw[qan];exact decide_eq_true (by omega)) (Ret.G (by rw[y1,show p3.s2 h.1=true from l1,qbG];simp;omega) (Ret.G (by rw[qf,qf];simp) (Ret.Jv (Ret.Jv (Ret.J fun y29 g29=>?_)))));rw[qg,sw.len,qan,qan]at g29;refine Ret.G (by rw[qf,hroom.1,hroom.2];cases y29<;>rfl) (Ret.R fun h30 g30=>?_);rw[qa2 (by omega)];refine hih (k-1) _ (by omega) ?_;have htk:(t.es.take (i+1)).foldl (rsR low high limit) []=rsR low high limit want t.es[i]:=by
     rw[qkz hil,List.foldl_append,←hwt];rfl
    by_cases hc:(¬Lt t.es[i].1 low∧Lt t.es[i].1 high)∧(want.length:Int)<limit
    ·have hy:y29=true:=by
      rw[g29];simp only[zad,decide_eq_true_eq];exact⟨⟨by have:=hc.1.1;unfold Lt at this;omega,hc.1.2⟩,hc.2⟩
     subst hy;have g30:h30=p3.u2 q':=g30;subst g30;refine⟨i+1,want++[t.es[i]],rfl,by omega,r2,?_,?_,?_,by simp;omega⟩
     ·show h'.1<0∨qn p2.q2≤h'.1;have:=up3.ln;rcases r3 with g|g
      ·rw[g];exact hwn
      ·exact .inr (by omega)
     ·exact⟨fun j _ r hr=>r4.kp j (fun e=>by
       have e:j=hw.1:=e;have:=qP hr;omega) r (up3.kp j id r hr),Int.le_trans up3.ln r4.ln⟩
     ·rw[htk];unfold rsR;rw[if_pos hc]
    ·have hy:y29=false:=by
      rw[g29,Bool.eq_false_iff];simp only[ne_eq,zad,decide_eq_true_eq];rintro⟨⟨j1,j2⟩,j3⟩;exact hc ⟨⟨by unfold Lt;omega,j2⟩,j3⟩
     subst hy;have g30:h30=p3:=g30;subst g30;refine⟨i+1,want,rfl,by omega,sw,hwn,up3,?_,by omega⟩;rw[htk];unfold rsR;rw[if_neg hc]
  ·have qN:qJ ([low,high]:List EP3) (i:Int) ([]:List qi)=if i=0 then low else high:=by
    have:i=0∨i=1:=by omega
    rcases this with rfl|rfl
    ·exact qb0 (i:=0) _ (by simp)
    ·exact qb0 (i:=1) _ (by simp)
   have ec:c17=some ((qau (if i=0 then low else high),()),()):=by
    show qaT N (qJ ([low,high]:List EP3) (i:Int) ([]:List qi),())=_;rw[qN];split
    ·exact cl
    ·exact ch
   clear_value c17 c18;subst ec;refine Ret.G (by rw[qan];exact decide_eq_true (by omega)) (Ret.G (by rw[qbG];exact decide_eq_true (by omega)) (Ret.G (qf _) (Ret.Jv ?_)));rw[qg];refine Ret.B (fun hc=>Ret.mk ?_) fun hc=>?_
   ·rw[qaM]at hc;have hc:qau (if i=0 then low else high)≠0:=by simpa using hc
    have key:out=[]∧er=qau (if i=0 then low else high):=by
     by_cases h0:i=0
     ·rw[if_pos h0]at hc⊢
      exact v3 hc
     ·rw[if_neg h0]at hc⊢
      exact v4 (hz1 (by omega)) hc
    have hl2:=v2.sl.len;rw[key.1]at hl2;dsimp only;rw[hl2,key.2,qa4,qa4];simp
   ·rw[qaM]at hc;have hc:qau (if i=0 then low else high)=0:=by simpa using hc
    rw[qa2 (by omega)];refine hih (k-1) _ (by omega) ⟨i+1,rfl,by omega,fun _=>?_,fun _=>?_⟩
    ·by_cases h0:i=0
     ·rw[if_pos h0]at hc;exact hc
     ·exact hz1 (by omega)
    ·rw[if_neg (by omega)]at hc;exact hc
 ·have hin:i<(ops.take n).length:=by rw[zae];omega
  have hel:qJ (ops.take n) (i:Int) (0,(0,(([]:List qi),())))=(ops.take n)[i]:=qb0 _ hin;generalize (ops.take n)[i]=op at hel;obtain⟨kind,w,v,⟨⟩⟩:=op;obtain⟨⟨p1,ok,⟨⟩⟩,u1,u2,d',t',h',bo1,hle1⟩:=op_ok ho bo (by omega) kind w v;dsimp only at u2 bo1;subst u2;have e7:c7=some (p1,(true,())):=by
   show qbf N p ((b,0),((a,0),((qJ (ops.take n) (i:Int) (0,(0,(([]:List qi),())))),())))=_;rw[hel];exact u1
  have e8:c8=(p1,(true,())):=by show qy c7 _=_;rw[e7,qg]
  clear_value c7 c8 c9 c10 c11 c12 c13;subst e7 e8;have hdep1:=bo1.dep (by omega);obtain⟨s3,s4,st1,st2⟩:=qs3 ho (by omega) (by omega) bo1.tre;obtain⟨x1,x2,x3⟩:=bo1.mp.get;refine Ret.G (by rw[qan];exact decide_eq_true (by omega)) (Ret.G (by rw[qbG];exact decide_eq_true (by omega)) (Ret.G (qf _) (Ret.Jv (Ret.Jv (Ret.F rfl (Ret.Rv ?_))))));try dsimp -zeta only
  extract_lets c14 c15;have e14:c14=(p1,(((t'.es.length:Int),((d':Int)+1,((d':Int)+1,(s3,(s4,()))))),())):=by show qy (qc4 N p1 ((b,0),())) _=_;rw[st1,qg]
  have e15:c15=decide (1<(d':Int)+1):=by show ltI 1 c14.2.1.2.1=_;rw[e14,qan]
  clear_value c14 c15;subst e14 e15;have hlenm:qaS (p1.g7 a 0).2.2 (p1.g7 a 0).2.1=(t'.es.length:Int):=by rw[x1];exact bo1.mp.sl.len
  have hlo:qth .i64 (qaj .i64 (o:Int) 1) 2=(((o+1)/2:Nat):Int):=by rw[qa2 (by omega),half _ (by omega)]
  refine Ret.G (by rw[st1,qf]) (Ret.Jv (Ret.Rv (Ret.G (by
   dsimp only;rw[x2,show neI 2 0=true from by rw[qaM];rfl];simp) (Ret.Jv (Ret.F ?_ ?_)))))
  ·dsimp only;rw[hlenm,hlo,qaM,qaM,qan,qan];by_cases hd0:d'=0
   ·simp[hd0]
   ·have:=st2 hd0;simp;omega
  ·rw[qa2 (by omega)];exact hih (k-1) _ (by omega) ⟨i+1,rfl,by omega,d',t',h',bo1,by omega⟩
theorem qse (x:PMs.den (valPs [(.int .i64),(.slice qbJ),(.slice ql),(.slice ql),(.int .i64)])):∃N z,qb4 N x=some ((true,()),z):=by
 obtain⟨order,ops,low,high,limit,⟨⟩⟩:=x;refine⟨3000000,PMs.yg _,?_⟩;show qkj _ (qag 3000000 (order,(ops,(low,(high,(limit,()))))))=_;rw[law19 ⟨by omega,by omega⟩,qeE];rfl
end
end Go.Proofs.Ytdiobaoelhdkoaa
