import Derived.Test.YtghccmfcndnljaaGreatViXB
import Derived.MapKept
import Derived.Lib.AppendZeros
import Derived.Lib.AppendStr
import Derived.Laws.CopyRow
import Derived.Laws.BitsLemmas
import Derived.Great.FillDense
import Derived.Great.BuildSlice
set_option linter.unusedVariables false
set_option linter.unusedSimpArgs false
set_option linter.unnecessarySimpa false
set_option linter.unusedSectionVars false
open Array renaming getElem?_eq_some_iff → zav, length_toList → zaI
open Bool renaming and_eq_true → zad, false_eq_true → za0, not_eq_true' → za8
open List renaming all_eq_true → zaN, append_assoc → zaC, append_nil → zar, drop_eq_getElem_cons → zaO, drop_zero → zbe, eq_nil_of_length_eq_zero → zaV, flatten_cons → zaX, getElem?_append_left → zaP, getElem?_append_right → zaL, getElem?_drop → zan, getElem?_eq_getElem → zaa, getElem?_eq_none → zaD, getElem?_eq_some_iff → zao, getElem?_take → zal, getElem_of_mem → zaw, length_append → zag, length_drop → zap, length_take → zaf, map_append → za3, map_cons → zaZ, mem_append → zaj, mem_append_left → zac, mem_append_right → zab, mem_cons → zam, mem_cons_of_mem → zae, mem_cons_self → zai, mem_map → zaS, mem_map_of_mem → zaR, mem_of_getElem? → zaU, mem_singleton → zat, nodup_append → zah, nodup_cons → zax, nodup_nil → zaH, take_append_drop → zaK, take_length → za5, take_of_length_le → zas
open Nat renaming add_mul → zbc, add_zero → zbf, le_refl → zay, lt_of_lt_of_le → zaE, lt_succ_self → zbb, mul_le_mul_right → zaq, zero_add → zaM, zero_le → za6
open Option renaming map_eq_some_iff → zaB, some → zbg
open Prod renaming mk → zbh
namespace Go.Vi
open Go.RowKit
section
variable {C:Ctx}{E:Env}{σ:St}{tm:Array Value}{a:Act}{w w':World}{own:Nat→List Nat}{o:Oper}{p:qg3} [Tabbed E C]
theorem qpe (hpn:∀k∈E.pins,∃b,C.pn k=some b) (h:qac C σ a.tmps w own) (hp:qbV (sit C σ a.tmps w own) p) {x:Operand}{as:Bool}(hop:o.op=if as then .assign x else .move x) {f:Eff}
  (he:(qec E p o).run (qt σ)=some f) (hd:∀u∈f.upd,u.s<σ.length) (hc:qcT f.chk):qcW C o a w (qk σ f.upd):=by
 have hx:(execOp a.eval o).run C.P w=.ok (.value (a.eval x)) w:=by
  unfold execOp;cases as<;>simp only[if_true,if_false,za0]at hop<;>rw[hop]<;>rfl
 unfold qec at he;cases as<;>simp only[if_true,if_false,za0]at hop<;>rw[hop]at he
 ·obtain⟨x1,h1,he⟩:=Q.yb he;exact qnV h (qaz h hp h1) (qo6 h h1) (qnc h1) hp.1 hpn he hd hx
 ·obtain⟨x1,h1,he⟩:=Q.yb he;exact qnV h (qaz h hp h1) (qo6 h h1) (qnc h1) hp.1 hpn he hd hx
theorem qt3 (hE:qa2 E C.P) (h:qac C σ a.tmps w own) (hp:qbV (sit C σ a.tmps w own) p) {t:Nat}{x:Operand}(hop:o.op=.load t x) {f:Eff}
  (he:(qec E p o).run (qt σ)=some f) (hd:∀u∈f.upd,u.s<σ.length) (hc:qcT f.chk):qcW C o a w (qk σ f.upd):=by
 unfold qec at he;rw[hop]at he;obtain⟨x1,h1,he⟩:=Q.yb he;split at he
 ·rename_i q hq;refine qsz hE h (qaz h hp h1) hq he hd ?_;unfold execOp;rw[hop];simp only[Sem.run_bind];rfl
 refine quG hE h hp.1 (qaz h hp h1) he hd hc ?_;unfold execOp;rw[hop];simp only[Sem.run_bind];rfl
theorem qr3 (hE:qa2 E C.P) (h:qac C σ a.tmps w own) (hp:qbV (sit C σ a.tmps w own) p) {t:Nat}{x y:Operand}(hop:o.op=.store t x y) {f:Eff}
  (he:(qec E p o).run (qt σ)=some f) (hd:∀u∈f.upd,u.s<σ.length) (hc:qcT f.chk):qcW C o a w (qk σ f.upd):=by
 unfold qec at he;rw[hop]at he;simp only at he;split at he
 ·cases he
 rename_i hdst;obtain⟨x1,h1,he⟩:=Q.yb he;obtain⟨y1,h2,he⟩:=Q.yb he;refine qsV hE h hp.1 (qaz h hp h1) (qaz h hp h2) (by cases ho:o.dst<;>simp[ho]at hdst⊢) he hd hc ?_;unfold execOp;rw[hop];simp only[Sem.run_bind];rfl
theorem qrn (hE:qa2 E C.P) (h:qac C σ a.tmps w own) (hp:qbV (sit C σ a.tmps w own) p) {t:Nat}(hop:o.op=.alloc t) {f:Eff}
  (he:(qec E p o).run (qt σ)=some f) (hd:∀u∈f.upd,u.s<σ.length) (hc:qcT f.chk):qcW C o a w (qk σ f.upd):=by
 unfold qec at he;rw[hop]at he;simp only at he;split at he
 ·rename_i c hz;have:=qI he;subst this;obtain⟨i,z,k1,k2,k3⟩:=hE.zero t c hz;refine qsB hE h hz hd k1 k2 ?_;unfold execOp;rw[hop];simp[Instr.alloc,zeroValue,typeInfo,k1,k2,newVar,newRow,ptr]
 ·cases he
theorem qva (hE:qa2 E C.P) (h:qac C σ a.tmps w own) (hp:qbV (sit C σ a.tmps w own) p) {t:Nat}{x:Operand}(hop:o.op=.box t x) {f:Eff}
  (he:(qec E p o).run (qt σ)=some f) (hd:∀u∈f.upd,u.s<σ.length) (hc:qcT f.chk):qcW C o a w (qk σ f.upd):=by
 unfold qec at he;rw[hop]at he;obtain⟨x1,h1,he⟩:=Q.yb he;split at he
 ·rename_i q hq;refine quN h (qaz h hp h1) hq he hd ?_;unfold execOp;rw[hop];simp[Instr.box,newVar,newRow,ptr]
 refine qv0 h (qaz h hp h1) he hd ?_;unfold execOp;rw[hop];simp[Instr.box,newVar,newRow,ptr]
theorem qnU (h:qac C σ a.tmps w own) (hp:qbV (sit C σ a.tmps w own) p) {x:Operand}(hop:o.op=.nilCheck x) {f:Eff}
  (he:(qec E p o).run (qt σ)=some f) (hd:∀u∈f.upd,u.s<σ.length) (hc:qcT f.chk):qcW C o a w (qk σ f.upd):=by
 unfold qec at he;rw[hop]at he;obtain⟨x1,h1,he⟩:=Q.yb he;have ho:=qaz h hp h1;have hr:∀ad,a.eval x=.pointer (some ad)→(execOp a.eval o).run C.P w=.ok (.value (a.eval x)) w:=fun ad e=>by
  unfold execOp;rw[hop];simp[e]
 have hw:=qo6 h h1;split at he
 ·rename_i s v off hb;rw[Q.yd]at he;split at he
  ·rename_i hv;have:=qI he;subst this;obtain⟨b,g1,g2,g3⟩:=qeQ h hp.1 ho hb hv;obtain⟨q1,q2⟩:=qq5 h hv g1 g2 g3;exact qz (hr _ g2) (h.dst0 hd q1 q2)
  ·cases he
 ·split at he
  ·rename_i s v fo sz i b hxa;rw[Q.yd]at he;split at he
   ·rename_i hv;have:=qI he;subst this;have hp:=ho.unowned (by rw[hxa];rfl);rw[hxa]at hp hw;obtain⟨g,k,cap,k1,k2,k3,k4⟩:=hp.2 hv;exact qz (hr _ k4) (h.dst0 hd ⟨rfl,fun _=>⟨g,k,cap,k1,k2,k3,k4⟩⟩ hw)
   ·cases he
  ·rename_i t y b hxa;have:=qI he;subst this;have hp:=ho.unowned (by rw[hxa];rfl);rw[hxa]at hp;obtain⟨k0,ad,cs,k1,k2⟩:=hp;exact qz (hr _ k1) (h.dst0 hd ⟨rfl,ad,cs,k1,k2⟩ (fun m hm=>by cases hm))
  ·rename_i e y hxa;have:=Q.yc he;subst this;have hsome:=hc _ (zat.2 rfl);rw[qgL]at hsome;obtain⟨y',rfl⟩:=Option.isSome_iff_exists.1 hsome;have hv:=ho.unowned (by rw[hxa];rfl);rw[hxa]at hv;rcases qau.opt hv.2 with⟨k1,_⟩|⟨y2,ad,cs,k1,k2,k3,k4,k5,k6⟩
   ·cases k1
   ·injection k1 with k1;subst k1;refine qz (hr _ k2) (h.dst0 hd ⟨rfl,ad,cs,?_,k3,k4,k5,?_⟩ (fun m hm=>by cases hm))
    ·rw[k2];simp[Addr.add]
    ·rw[qjz];exact k6
  ·cases he
theorem qsS (h:qac C σ a.tmps w own) (hp:qbV (sit C σ a.tmps w own) p) {c x y:Operand}(hop:o.op=.pick c x y) {f:Eff}
  (he:(qec E p o).run (qt σ)=some f) (hd:∀u∈f.upd,u.s<σ.length) (hc:qcT f.chk):qcW C o a w (qk σ f.upd):=by
 unfold qec at he;rw[hop]at he;obtain⟨c1,h1,he⟩:=Q.yb he;obtain⟨cr,h2,he⟩:=Q.yb he;have rc:=qd2 h (qaz h hp h1) h2;split at he;case h_2=>cases he
 rename_i bc _;have ec:=qau.bool rc;obtain⟨x1,h3,he⟩:=Q.yb he;obtain⟨xr,h4,he⟩:=Q.yb he;obtain⟨y1,h5,he⟩:=Q.yb he;obtain⟨yr,h6,he⟩:=Q.yb he;split at he;case h_2=>cases he
 rename_i z hz;split at he;case isFalse=>cases he
 rename_i hemp;simp only[zad,List.isEmpty_iff]at hemp;have:=qI he;subst this;have path:∀(wb:Bool),bc=wb→qbV (sit C σ a.tmps w own) (qqc c c1.v wb bc p):=by
  intro wb hwb;cases c with
  |tmp t=>
   refine⟨hp.1,fun q hq=>?_⟩;rcases zam.1 hq with rfl|hq
   ·have h1:(⟨some t,(qt σ t).1,qbk p (qt σ t).2⟩:Op1)=c1:=zbg.inj h1;refine⟨by rw[←h1];rfl,?_,hwb⟩;rw[←hwb];exact ec
   ·exact hp.2 q hq
  |_=>exact hp
 have hr:(execOp a.eval o).run C.P w=.ok (.value (if bc then a.eval x else a.eval y)) w:=by
  unfold execOp;rw[hop];cases bc<;>simp[ec,asBool]
 refine qaZ h hr hd ?_;cases hb:bc with
 |true=>
  have:=qd2 h (qaz h (path true hb) h3) h4;rw[hemp.1]at this;exact this.mono fun b hb _=>qnm hb
 |false=>
  have:=qd2 h (qaz h (path false hb) h5) h6;rw[hemp.2]at this;exact(qau.as hz this).mono fun b hb _=>qnm hb
theorem qdI {l:List Value}{n i s:Nat}(h:i<n):((l.take (n*s)).drop (i*s)).take s=(l.drop (i*s)).take s:=by
 rw[List.drop_take,List.take_take];congr 1;have:(i+1)*s≤n*s:=zaq _ h;rw[zbc]at this;omega
theorem qac.newOwn (h:qac C σ a.tmps w own) {et:Nat}{e:Ty}{xs:List e.den}{cur:Array Value}{n cap:Nat}(hmk:etM et=[]) (hlen:xs.length=n) (hnc:n≤cap) (hcm:cap≤maxLen) (hsz:cur.size=cap*e.size)
  (hx:∀i x,xs[i]? =some x→Rep w (C.free w own) e x ((cur.toList.drop (i*e.size)).take e.size))
  (hr:(execOp a.eval o).run C.P w=.ok (.value (.slice (some ⟨w.heap.size,0,none⟩) n cap)) (w.alloc (.cells cur et))) (hd:∀u∈qbp o (.own et e xs),u.s<σ.length):qcW C o a w (qk σ (qbp o (.own et e xs))):=by
 refine qz hr (h.dst (bs:=[w.heap.size]) (qbc.alloc _ _ _) hd (fun b hb=>?_) (by simp) ?_ (fun m hm=>by cases hm))
 ·simp at hb;subst hb;exact⟨zay _,by simp⟩
 ·refine qar.to hmk ⟨cur.toList.take (n*e.size),⟨?_,.inr ⟨w.heap.size,cap,cur,by rw[hlen],za6 _,heap_alloc_new w _,by rw[hlen];exact hnc,hcm,hsz,by rw[hlen]⟩⟩,rfl,fun i x hi=>?_⟩
  ·rw[zaf,zaI,hsz,hlen];exact Nat.min_eq_left (zaq _ hnc)
  ·have hlt:i<n:=by
    rw[←hlen];exact(zao.1 hi).1
   rw[qdI hlt];refine(hx i x hi).keep fun b hb hlt=>⟨⟨.inl hb,by simp;omega,by simp;omega⟩,by simp;omega,qdc w _ _ hlt⟩
theorem qf1 (z:Array Value) (n i:Nat) (hi:i<n) (hz:0<z.size):(madeCells z n).toList[i]? =z.toList[i%z.size]? :=by
 have h1:i%z.size<z.size:=Nat.mod_lt _ hz;simp[madeCells,hi,h1]
theorem qgg (z:Array Value) (n i:Nat) (hi:i<n):((madeCells z (n*z.size)).toList.drop (i*z.size)).take z.size=z.toList:=by
 have hle:(i+1)*z.size≤n*z.size:=zaq _ hi;rw[zbc,Nat.one_mul]at hle;apply List.ext_getElem?;intro j;rw[zal];split
 ·rename_i hj;rw[zan,qf1 _ _ _ (by omega) (by omega)];rw[show(i*z.size+j)%z.size=j from by rw[Nat.mul_comm,Nat.mul_add_mod,Nat.mod_eq_of_lt hj]]
 ·rename_i hj;rw[zaD (by rw[zaI];omega)]
theorem qm6 (z:Array Value) (n m i:Nat) (hi:i<n):((Builtin.zeroCells z n++Builtin.zeroCells z m).toList.drop (i*z.size)).take z.size=z.toList:=by
 have hle:(i+1)*z.size≤n*z.size:=zaq _ hi;rw[zbc,Nat.one_mul]at hle;have hs:(Builtin.zeroCells z n).toList.length=n*z.size:=by simp[Builtin.zeroCells]
 rw[Array.toList_append,List.drop_append,List.take_append,zap,hs];rw[show z.size-(n*z.size-i*z.size)=0 by omega,List.take_zero,zar];exact qgg z n i hi
theorem qm0 (hE:qa2 E C.P) (h:qac C σ a.tmps w own) (hp:qbV (sit C σ a.tmps w own) p) {t:Nat}{x y:Operand}(hop:o.op=.makeSlice t x y) {f:Eff}
  (he:(qec E p o).run (qt σ)=some f) (hd:∀u∈f.upd,u.s<σ.length) (hc:qcT f.chk):qcW C o a w (qk σ f.upd):=by
 unfold qec at he;rw[hop]at he;obtain⟨x1,h1,he⟩:=Q.yb he;obtain⟨y1,h2,he⟩:=Q.yb he;obtain⟨n,h3,he⟩:=Q.yb he;obtain⟨m,h4,he⟩:=Q.yb he;obtain⟨e1,g1⟩:=qem h (qaz h hp h1) h3;obtain⟨e2,g2⟩:=qem h (qaz h hp h2) h4;split at he;case h_2=>cases he
 rename_i e hty;split at he;case isFalse=>cases he
 rename_i hby;obtain⟨hby,hmk⟩:=hby;have:=Q.yc he;subst this;obtain⟨i,z,k1,k2,k3,k4,k5,k6,k7⟩:=hE.elem' hty;have c1:0≤n.2:=by have:=hc (leI 0 n.2) (by simp);simpa[qbQ]using this
 have c2:n.2≤m.2:=by have:=hc (leI n.2 m.2) (by simp);simpa[qbQ]using this
 have c3:m.2*(E.bytes (E.etid t):Int)≤140737488355328:=by
  have:=hc (room m.2 (E.bytes (E.etid t))) (by simp);simp[qqZ]at this;exact this.2
 have c5:m.2≤140737488355328:=by
  have h1:(1:Int)≤(E.bytes (E.etid t):Int):=by omega
  have h2:m.2*1≤m.2*(E.bytes (E.etid t):Int):=Int.mul_le_mul_of_nonneg_left h1 (by omega);omega
 have c4:m.2≤9223372036854775807:=by omega
 have hrun:=run_make (P:=C.P) w t (E.etid t) i z k1 k2 k4 n.1 m.1 n.2 m.2 c1 c2 (by rw[k6,Int.mul_comm];omega) c4;refine h.newOwn hmk (n:=n.2.toNat) (cap:=m.2.toNat) (cur:=madeCells z.cells (m.2.toNat*i.size)) (by simp[qjR]) (by omega) (by simp only[maxLen];omega) (by rw[size_madeCells,k3]) ?_ ?_ hd
 ·intro j u hj;have hlt:j<n.2.toNat:=by
   have:=(zao.1 hj).1;simpa[qjR]using this
  have hu:u=e.dflt:=by
   have:=zaU hj;rw[qjR]at this;exact List.eq_of_mem_replicate this
  rw[hu,k3,←k5,qgg _ _ _ (by omega)];exact k7 _ _
 ·unfold execOp;rw[hop];simp only[Sem.run_bind,e1,e2,hrun];rfl
end
end Go.Vi
namespace Go.Vi
open Go.RowKit
section
variable {C:Ctx}{E:Env}{σ:St}{tm:Array Value}{a:Act}{w w':World}{own:Nat→List Nat}{o:Oper}{p:qg3} [Tabbed E C]
theorem qa3.at {F:Nat→Prop}: {cs:List qoH}→{vs:List Value}→{bs:List Nat}→{i:Nat}→{c:qoH}→qa3 w F cs vs bs→cs[i]? =some c→
  ∃v b1 b2 b3,vs[i]? =some v∧bs=b1++b2++b3∧qp5 w F c v b2∧qa3 w F (cs.set i .gone) vs (b1++b3)
 |[],_,_,_,_,_,hc=>by cases hc
 |c::cs,_,_,0,_,⟨v,r,b1,b2,h1,h2,h3,h4⟩,hc=>by
  injection hc with hc;subst hc;exact⟨v,[],b1,b2,by rw[h1];rfl,by rw[h2];rfl,h3,v,r,[],b2,h1,rfl,rfl,h4⟩
 |c::cs,_,_,i+1,_,⟨v,r,b1,b2,h1,h2,h3,h4⟩,hc=>by
  obtain⟨v',c1,c2,c3,k1,k2,k3,k4⟩:=h4.at (i:=i) hc;exact⟨v',b1++c1,c2,c3,by rw[h1];exact k1,by rw[h2,k2];simp,k3,v,r,b1,c1++c3,h1,by simp,h3,k4⟩
theorem qac.part (h:qac C σ tm w own) {s d:Nat}(hs:s<σ.length) (hd:d<σ.length) (hne:d≠s) {av av':AV}{v:Value}{b1 b2 b3:List Nat}(hown:own s=b1++b2++b3)
  (hav:qax (sit C σ tm w own) av (tm.getD s undef) (b1++b3)) (hav':qax (sit C σ tm w own) av' v b2) (hm:av.mentions=[]) (hm':av'.mentions=[]):
  ∃own',qac C (qk σ [⟨s,true,av⟩,⟨d,true,av'⟩]) (tm.setIfInBounds d v) w own':=by
 have eS:qt (qk σ [⟨s,true,av⟩,⟨d,true,av'⟩]) s=((qt σ s).1+1,av):=by
  show qt (qX (qX σ ⟨s,true,av⟩) ⟨d,true,av'⟩) s=_;rw[qu _ _ (Ne.symm hne),qS σ ⟨s,true,av⟩ hs];rfl
 have eD:qt (qk σ [⟨s,true,av⟩,⟨d,true,av'⟩]) d=((qt σ d).1+1,av'):=by
  show qt (qX (qX σ ⟨s,true,av⟩) ⟨d,true,av'⟩) d=_;rw[qS (qX σ ⟨s,true,av⟩) ⟨d,true,av'⟩ (by rw[qal];exact hd),qu _ _ hne];rfl
 have eO:∀x,x≠s→x≠d→qt (qk σ [⟨s,true,av⟩,⟨d,true,av'⟩]) x=qt σ x:=fun x h1 h2=>by
  show qt (qX (qX σ ⟨s,true,av⟩) ⟨d,true,av'⟩) x=_;rw[qu _ _ h2,qu _ _ h1]
 have tD:(tm.setIfInBounds d v).getD d undef=v:=qbd tm _ (by rw[h.size];exact hd);have tS:(tm.setIfInBounds d v).getD s undef=tm.getD s undef:=qah tm _ (Ne.symm hne);let own':Nat→List Nat:=fun x=>if x=d then b2 else if x=s then b1++b3 else own x
 have oD:own' d=b2:=by simp[own']
 have oS:own' s=b1++b3:=by simp[own',Ne.symm hne]
 have hnd:=h.nodup s;rw[hown]at hnd;have n1:=zah.1 hnd;have n2:=zah.1 n1.1;have sub:∀x b,x=s∨x=d→b∈own' x→b∈own s:=by
  rintro x b (rfl|rfl) hb
  ·rw[oS]at hb;rw[hown];rcases zaj.1 hb with hb|hb<;>simp[hb]
  ·rw[oD]at hb;rw[hown];simp[hb]
 have dis:∀b,b∈own' s→b∈own' d→False:=by
  intro b hb hb';rw[oS]at hb;rw[oD]at hb';rcases zaj.1 hb with hb|hb
  ·exact n2.2.2 b hb b hb' rfl
  ·exact n1.2.2 b (zab _ hb') b hb rfl
 refine⟨own',h.update (fun x=>x=s∨x=d) (qO _ _) (by simp) ?_ ?_ (qbc.refl _ _) ?_ ?_ ?_ ?_ ?_⟩
 ·intro x hx;have h1:x≠s:=fun e=>hx (.inl e);have h2:x≠d:=fun e=>hx (.inr e);exact⟨eO x h1 h2,qah tm _ h2,by simp[own',h1,h2]⟩
 ·rintro x (rfl|rfl)
  ·rw[eS];exact .inl (zbb _)
  ·rw[eD];exact .inl (zbb _)
 ·rintro x (rfl|rfl)<;>assumption
 ·intro x hx;refine⟨fun b hb=>.inr ⟨s,.inl rfl,sub x b hx hb⟩,?_⟩;rcases hx with rfl|rfl
  ·rw[oS];exact zah.2 ⟨n2.1,n1.2.1,fun b hb b' hb'=>n1.2.2 b (zac _ hb) b' hb'⟩
  ·rw[oD];exact n2.2.1
 ·rintro x y b (rfl|rfl) (rfl|rfl) hb hb'
  ·rfl
  ·exact(dis b hb hb').elim
  ·exact(dis b hb' hb).elim
  ·rfl
 ·have hfree:∀b,C.free w own b→C.free w own' b:=fun b hb=>⟨hb.1,hb.2.1,fun x hx=>by
   by_cases h1:x=s∨x=d
   ·exact hb.2.2 s (sub x b h1 hx)
   ·have h2:x≠s:=fun e=>h1 (.inl e);have h3:x≠d:=fun e=>h1 (.inr e);simp only[own',if_neg h2,if_neg h3]at hx;exact hb.2.2 x hx⟩
  rintro x (rfl|rfl)
  ·rw[eS,tS,oS];exact qax.keep (X:=sit C σ tm w own) (X':=sit C _ _ w own') ⟨rfl,rfl⟩ (fun b hb hlt=>⟨hfree b hb,hlt,rfl⟩) (fun _ _ _=>rfl) (fun m hmm=>by rw[hm]at hmm;cases hmm) hav
  ·rw[eD,tD,oD];exact qax.keep (X:=sit C σ tm w own) (X':=sit C _ _ w own') ⟨rfl,rfl⟩ (fun b hb hlt=>⟨hfree b hb,hlt,rfl⟩) (fun _ _ _=>rfl) (fun m hmm=>by rw[hm']at hmm;cases hmm) hav'
 ·rintro x (rfl|rfl) m hmm
  ·rw[eS,hm]at hmm;cases hmm
  ·rw[eD,hm']at hmm;cases hmm
theorem qo7 (h:qac C σ a.tmps w own) (hp:qbV (sit C σ a.tmps w own) p) {x:Operand}{i:Nat}(hop:o.op=.extract x i) {f:Eff}
  (he:(qec E p o).run (qt σ)=some f) (hd:∀u∈f.upd,u.s<σ.length) (hc:qcT f.chk):qcW C o a w (qk σ f.upd):=by
 unfold qec at he;rw[hop]at he;simp only at he;split at he;case h_2=>cases he
 rename_i t;rw[Q.yd]at he;split at he;case h_2=>cases he
 rename_i cs hcs;have hat:=qlN hp (h.at_ t);rw[hcs]at hat;obtain⟨vs,h1,h2⟩:=hat;have hr:∀v,vs[i]? =some v→(execOp a.eval o).run C.P w=.ok (.value v) w:=fun v hv=>by
  unfold execOp;rw[hop];have e:a.eval (.tmp t)=.tuple vs.toArray:=h1;simp[Sem.run_bind,e,Instr.extract,hv]
 split at he
 ·rename_i u y hi;have:=qI he;subst this;obtain⟨v,b1,b2,b3,k1,k2,k3,k4⟩:=h2.at hi;exact qaZ h (hr v k1) hd k3.2
 ·rename_i et e xs hi;split at he;case h_2=>cases he
  rename_i d hdst;split at he
  ·cases he
  ·rename_i hne;have:=qI he;subst this;obtain⟨v,b1,b2,b3,k1,k2,k3,k4⟩:=h2.at hi;refine qz (hr v k1) ?_;rw[qd0 a hdst];exact h.part (s:=t) (d:=d) (hd ⟨t,true,.tup (cs.set i .gone)⟩ (by simp)) (hd ⟨d,true,.own et e xs⟩ (by simp)) hne k2 ⟨vs,h1,k4⟩ k3 rfl rfl
 ·rename_i c hi;split at he;case h_2=>cases he
  rename_i d hdst;split at he
  ·cases he
  ·rename_i hne;have:=qI he;subst this;obtain⟨v,b1,b2,b3,k1,k2,k3,k4⟩:=h2.at hi;refine qz (hr v k1) ?_;rw[qd0 a hdst];exact h.part (s:=t) (d:=d) (hd ⟨t,true,.tup (cs.set i .gone)⟩ (by simp)) (hd ⟨d,true,.agg c⟩ (by simp)) hne k2 ⟨vs,h1,k4⟩ k3 rfl rfl
 ·cases he
def qk1 (X:Sit):List Op1→List Value→Prop
 |[],[]=>True
 |o::os,v::vs=>qbB X o v∧qk1 X os vs
 |_,_=>False
theorem qkJ (h:qac C σ a.tmps w own) {P:Program}{g:Int→Int→Int}{m2:Value→Value→Sem Value}(hg:∀k x y,(m2 (.int k x) (.int k y)).run P w=.ok (.int k (g x y)) w) (hh:∀(k:IntKind) x y,k.has x→k.has y→k.has (g x y)) {k:IntKind}:
  ∀(os:List Op1) (vs:List Value) (n r:Int),k.has n→qk1 (sit C σ a.tmps w own) os vs→(qnZ g k n os).run (qt σ)=some r→(vs.foldlM m2 (.int k n)).run P w=.ok (.int k r) w∧k.has r
 |[],[],n,r,hn,_,he=>by
  have:=Q.yc he;subst this;exact⟨rfl,hn⟩
 |o::os,v::vs,n,r,hn,⟨ho,hos⟩,he=>by
  obtain⟨m,h1,he⟩:=Q.yb he;split at he
  ·rename_i hk;obtain⟨e1,g1⟩:=qem h ho h1;subst hk;subst e1;obtain⟨k1,k2⟩:=qkJ h hg hh os vs (g n m.2) r (hh _ _ _ hn g1) hos he;refine⟨?_,k2⟩;rw[List.foldlM_cons,Sem.run_bind,hg];exact k1
  ·cases he
theorem qmc (h:qac C σ a.tmps w own) (hp:qbV (sit C σ a.tmps w own) p):∀(xs:List Operand) (ts:List Nat) {os:List Op1},(qvL E p xs ts).run (qt σ)=some os→qk1 (sit C σ a.tmps w own) os (xs.map a.eval)
 |[],_,os,he=>by
  have:=Q.yc he;subst this;trivial
 |x::xs,ts,os,he=>by
  obtain⟨o1,h1,he⟩:=Q.yb he;obtain⟨r,h2,he⟩:=Q.yb he;have:=Q.yc he;subst this;exact⟨qaz h hp h1,qmc h hp xs ts.tail h2⟩
theorem ql0 {α β:Type}{R:Nat→α→β→Prop}:∀(xs:List α),(∀i x,xs[i]? =some x→∃c,R i x c)→∃cs:List β,cs.length=xs.length∧∀i x c,xs[i]? =some x→cs[i]? =some c→R i x c
 |[],_=>⟨[],rfl,fun i x c hx=>by cases hx⟩
 |y::ys,h=>by
  obtain⟨c,hc⟩:=h 0 y rfl;obtain⟨cs,h1,h2⟩:=ql0 (R:=fun i x c=>R (i+1) x c) ys fun i x hx=>h (i+1) x hx;refine⟨c::cs,by simp[h1],fun i x d hx hd=>?_⟩;cases i with
  |zero=>
   injection hx with hx;injection hd with hd;subst hx;subst hd;exact hc
  |succ i=>exact h2 i x d hx hd
def qvM (w:World) (F:Nat→Prop) (e:Ty) (xs:List e.den) (v:Value):Prop:=
 (v=.slice none 0 0∧xs=[])∨∃(ad:Addr) (cap:Nat) (cells:List Value),v=.slice (some ad) xs.length cap∧cells.length=xs.length*e.size∧(∀j u,cells[j]? =some u→w.cell? (ad.add j)=some u)∧∀i x,xs[i]? =some x→Rep w F e x ((cells.drop (i*e.size)).take e.size)
theorem qar.rowAt {F:Nat→Prop}{et:Nat}{e:Ty}{xs:List e.den}{v:Value}{bs:List Nat}(h:qar w F et e xs v bs):qvM w F e xs v:=by
 obtain⟨cells,k1,k2,k3⟩:=h;rcases k1.2 with⟨k4,k5⟩|⟨g,cap,cur,k4,_⟩
 ·exact .inl ⟨k4,zaV k5⟩
 ·exact .inr ⟨⟨g,0,none⟩,cap,cells,k4,k1.1,k1.cells (by rw[k4];rfl),k3⟩
theorem qrs {css:List (List Value)}{sz j:Nat}{u:Value}(h:∀c∈css,c.length=sz) (hu:css.flatten[j]? =some u):∃i c,css[i]? =some c∧c[j%sz]? =some u∧i=j/sz∧j=i*sz+j%sz:=by
 have hpos:0<sz:=by
  rcases Nat.eq_zero_or_pos sz with h0|h0
  ·have:css.flatten=[]:=List.flatten_eq_nil_iff.2 fun l hl=>zaV ((h l hl).trans h0);rw[this]at hu;cases hu
  ·exact h0
 have hj:j<css.flatten.length:=(zao.1 hu).1;rw[qeV h]at hj;have hi:j/sz<css.length:=(Nat.div_lt_iff_lt_mul hpos).2 hj;have e:=qbO h (zaa hi);have hdm:j/sz*sz+j%sz=j:=by rw[Nat.mul_comm];exact Nat.div_add_mod j sz
 refine⟨j/sz,css[j/sz],zaa hi,?_,rfl,hdm.symm⟩;rw[←e.1,zal,if_pos (Nat.mod_lt _ hpos),zan,hdm];exact hu
theorem qes.rowAt {F:Nat→Prop}{e:Ty}{xs:List e.den}{v:Value}(h:qes w F (Rep w F e) e.size xs v):qvM w F e xs v:=by
 rcases h with h|⟨ad,cap,h1,h2,h3,h4⟩
 ·exact .inl h
 ·obtain⟨css,k1,k2⟩:=ql0 (R:=fun i x cs=>qfL w (ad.add (i*e.size)) cs∧Rep w F e x cs) xs fun i x hx=>(h4 i x hx).2.2;have hl:∀c∈css,c.length=e.size:=by
   intro c hc;obtain⟨i,hi,rfl⟩:=zaw hc;exact(k2 i _ _ (zaa (by omega)) (zaa hi)).2.length
  refine .inr ⟨ad,cap,css.flatten,h1,by rw[qeV hl,k1],fun j u hu=>?_,fun i x hx=>?_⟩
  ·obtain⟨i,c,g1,g2,g3,g4⟩:=qrs hl hu;have hi:i<xs.length:=by rw[←k1];exact(zao.1 g1).1
   have:=(k2 i _ c (zaa hi) g1).1 _ _ g2;rw[qbj]at this;rw[g4];rw[g4]at this;simpa using this
  ·have hi:i<css.length:=by rw[k1];exact(zao.1 hx).1
   rw[(qbO hl (zaa hi)).1];exact(k2 i x _ hx (zaa hi)).2
theorem qqC (h:qac C σ a.tmps w own) {o1:Op1}{v:Value}(ho:qbB (sit C σ a.tmps w own) o1 v) {q:((e:Ty)×List e.den)×List Nat}(he:(quZ o1).run (qt σ)=some q):qvM w (C.free w own) q.1.1 q.1.2 v:=by
 obtain⟨os,ov,oa⟩:=o1;unfold quZ at he;cases oa with
 |own et e xs=>
  simp only at he;split at he;case isFalse=>cases he
  rename_i hm;have hm:=List.isEmpty_iff.1 hm;have:=Q.yc he;subst this;cases os with
  |none=>exact qar.rowAt (bs:=[]) (q8.to0 hm ho)
  |some s=>exact qar.rowAt (q8.to0 hm ho.2.2)
 |nilr et e=>
  have:=Q.yc he;subst this;rw[(ho.unowned rfl).2];exact .inl ⟨rfl,rfl⟩
 |nz e xs=>
  have:=Q.yc he;subst this;exact qes.rowAt (qau.slice (ho.unowned rfl).2.1)
 |val t xs=>
  cases t with
  |slice e=>
   have:=Q.yc he;subst this;exact qes.rowAt (qau.slice (ho.unowned rfl).2)
  |_=>cases he
 |ref s v0=>
  simp only[Q.yd]at he;split at he
  ·rename_i hv;have hu:a.tmps.getD s undef=v:=(ho.unowned rfl).2 hv;have hat:=h.at_ s;rw[hu]at hat;split at he
   ·rename_i et e xs h3;rw[h3]at hat;split at he;case isFalse=>cases he
    rename_i hm;have:=Q.yc he;subst this;exact qar.rowAt (q8.to0 (List.isEmpty_iff.1 hm) hat)
   ·rename_i e xs h3;rw[h3]at hat;have:=Q.yc he;subst this;exact qes.rowAt (qau.slice hat.2)
   ·cases he
  ·cases he
 |bref s v0 off u=>
  simp only at he;split at he
  ·rename_i hag;rw[Q.yd]at he;split at he
   ·rename_i hv;split at he
    ·rename_i r h3;obtain⟨et,e,xs⟩:=r;split at he;case isFalse=>cases he
     rename_i hm;have:=Q.yc he;subst this;obtain⟨_,b1,b2,b3,q1,_⟩:=h.rowAt h3 (qg8 (ho.unowned rfl) hag hv);exact qar.rowAt (q8.to0 (List.isEmpty_iff.1 hm) q1)
    ·cases he
   ·cases he
  ·cases he
 |_=>cases he
end
end Go.Vi
namespace Go.Vi
open Go.RowKit
theorem quB:(k:Ty)→k.key=true→{x y:k.den}→keyV k x=keyV k y→x=y
 |.int _,_,x,y,h=>by simp[keyV]at h;exact h
 |.bool,_,x,y,h=>by simp[keyV]at h;exact h
 |.str,_,x,y,h=>by simpa[keyV]using h
theorem qc1: {k:Ty}→{d:TypeDesc}→qhU k d=true→(x:k.den)→MapKept.IsKey d (keyV k x)
 |.int k,.int k',h,_=>by
  have:k'=k:=of_decide_eq_true h;exact this.symm
 |.bool,.bool,_,_=>trivial
 |.str,.string,_,_=>trivial
theorem qdZ: {k:Ty}→{d:TypeDesc}→qhU k d=true→k.key=true
 |.int _,.int _,_=>rfl
 |.bool,.bool,_=>rfl
 |.str,.string,_=>rfl
theorem qau.keyV {w:World}{F:Nat→Prop}: {k:Ty}→k.key=true→{x:k.den}→{v:Value}→qau w F k x v→v=Vi.keyV k x
 |.int _,_,_,_,h=>h.int.1
 |.bool,_,_,_,h=>h.bool
 |.str,_,_,_,h=>h.str.1
section
open Classical
theorem quX {α β:Type}(k:α):qfa ([]:List (α×β)) k=0:=rfl
theorem qsQ {α β:Type}(p:α×β) (xs:List (α×β)) (k:α):qfa (p::xs) k=if p.1=k then 0 else qfa xs k+1:=by
 unfold qfa;rw[List.findIdx_cons];by_cases h:p.1=k
 ·simp[h]
 ·simp[h]
end
theorem qv1 {α β:Type}{xs:List (α×β)}{k:α}(h:qfa xs k<xs.length):(xs[qfa xs k]'h).1=k:=by
 unfold qfa at h⊢
 have:=List.findIdx_getElem (w:=h);simpa using this
theorem qqX {k:Ty}{d:TypeDesc}(hd:qhU k d=true) {β:Type}(x:k.den):∀(xs:List (k.den×β)) (l:List MapEntry) (i:Nat),l.length=xs.length→(∀(j:Nat) (e:MapEntry) (p:k.den×β),l[j]? =some e→xs[j]? =some p→e.key=keyV k p.1)→
  (qfa xs x<xs.length∧∃e,l[qfa xs x]? =some e∧Instr.findNow d (keyV k x) l i=some (some (i+qfa xs x,e.val)))∨(¬qfa xs x<xs.length∧Instr.findNow d (keyV k x) l i=some none)
 |[],[],i,_,_=>.inr ⟨by simp[quX],rfl⟩
 |p::xs,e::l,i,hl,h=>by
  have hk:e.key=keyV k p.1:=h 0 e p rfl rfl;obtain⟨r,hr,hiff⟩:=MapKept.sameNow_of_keys (qc1 hd x) (by rw[hk];exact qc1 hd p.1:MapKept.IsKey d e.key);rw[qsQ];by_cases hpx:p.1=x
  ·have hr1:r=true:=hiff.2 (by rw[hk,hpx]);subst hr1;rw[if_pos hpx];exact .inl ⟨by simp,e,rfl,by simp[Instr.findNow,hr]⟩
  ·have hr1:r=false:=by
    cases r with
    |false=>rfl
    |true=>exact absurd (quB k (qdZ hd) (by rw[←hk];exact(hiff.1 rfl).symm)) hpx
   subst hr1;rw[if_neg hpx];rcases qqX hd x xs l (i+1) (by simpa using hl) (fun j e p he hp=>h (j+1) e p (by simpa using he) (by simpa using hp))with⟨h1,e',h2,h3⟩|⟨h1,h2⟩
   ·refine .inl ⟨by simpa using h1,e',by simpa using h2,?_⟩;simp[Instr.findNow,hr,h3];omega
   ·exact .inr ⟨by simpa using h1,by simp[Instr.findNow,hr,h2]⟩
section
variable {C:Ctx}{E:Env}{σ:St}{tm:Array Value}{a:Act}{w w':World}{own:Nat→List Nat}{o:Oper}{p:qg3} [Tabbed E C]
theorem qau.keyOk {F:Nat→Prop}: {k:Ty}→k.key=true→{x:k.den}→{v:Value}→qau w F k x v→k.keyOk x
 |.int _,_,_,_,h=>h.int.2
 |.bool,_,_,_,_=>trivial
 |.str,_,_,_,h=>h.str.2
theorem qau.ofKey {F:Nat→Prop}: {k:Ty}→k.key=true→{x:k.den}→k.keyOk x→qau w F k x (Vi.keyV k x)
 |.int _,_,_,h=>qau.ofInt _ _ h
 |.bool,_,_,_=>qau.ofBool _ _ _
 |.str,_,_,h=>qau.ofStr _ _ h
theorem qqO (h:qac C σ a.tmps w own) {k:Ty}(hk:k.key=true) {o1:Op1}{v:Value}{q:k.den×List Nat}(ho:qbB (sit C σ a.tmps w own) o1 v) (he:(toVal k o1).run (qt σ)=some q):v=keyV k q.1:=
 (qc8 h ho he).keyV hk
theorem qrP (h:qac C σ a.tmps w own) {o1:Op1}{v:Value}(ho:qbB (sit C σ a.tmps w own) o1 v) (hlt:∀s,o1.s=some s→o1.a≠ .undef→s<σ.length) {M:MV}(he:(qqh o1).run (qt σ)=some M):
  M.s<σ.length∧a.tmps.getD M.s undef=v∧qf9 w (C.free w own) M.k M.v M.xs v (own M.s):=by
 unfold qqh at he;split at he
 ·rename_i s k t xs h1 h2;have:=Q.yc he;subst this;have hl:=hlt s h1 (by rw[h2];intro e;cases e);unfold qbB at ho;rw[h1,h2]at ho;exact⟨hl,ho.1.symm,ho.2.2⟩
 ·rename_i s v0 h2;rw[Q.yd]at he;split at he
  ·rename_i hv;split at he
   ·rename_i k t xs hm;have:=Q.yc he;subst this;have hu:=ho.unowned (by rw[h2];rfl);rw[h2]at hu;have e1:a.tmps.getD s undef=v:=hu.2 hv;have hat:=h.at_ s;rw[hm,e1]at hat;refine⟨?_,e1,hat⟩;apply Classical.byContradiction;intro hn;have:qt σ s=(0,.undef):=by simp[qt,List.getD,zaD (Nat.le_of_not_lt hn)]
    rw[this]at hm;cases hm
   ·cases he
  ·cases he
 ·cases he
theorem qpC.look {k:Ty}{β:Type}{R:β→Value→Prop}{xs:List (k.den×β)}{b:Nat}(h:qpC w k R xs b) {d:TypeDesc}(hd:qhU k d=true) (x:k.den):
  ∃es clock,w.heap[b]? =some (.map es clock)∧es.size=xs.length∧
   ((qpH xs x=false∧(∀dd,qkQ xs x dd=dd)∧Instr.findNow d (keyV k x) es.toList 0=some none)∨
    ∃e q,qpH xs x=true∧(∀dd,qkQ xs x dd=q.2)∧es[qfa xs x]? =some e∧xs[qfa xs x]? =some q∧e.key=keyV k x∧R q.2 e.val∧Instr.findNow d (keyV k x) es.toList 0=some (some (qfa xs x,e.val))):=by
 obtain⟨es,clock,h3,h4,h5,_,_,_,h6⟩:=h;refine⟨es,clock,h3,h4,?_⟩;rcases qqX hd x xs es.toList 0 (by simpa using h4) (fun j e p he hp=>(h6 j e p (by simpa using he) hp).1)with⟨g1,e,g2,g3⟩|⟨g1,g2⟩
 ·right;have hq:=zaa g1;have he:es[qfa xs x]? =some e:=by simpa using g2
  refine⟨e,xs[qfa xs x],by rw[qf4];simp[g1],fun dd=>by rw[qf0,hq];rfl,he,hq,?_,(h6 _ e _ he hq).2,by simpa using g3⟩;rw[(h6 _ e _ he hq).1];congr 1;exact qv1 g1
 ·left;refine⟨by rw[qf4];simp[g1],fun dd=>?_,g2⟩;rw[qf0,zaD (by omega)];rfl
theorem qac.mapTurn (h:qac C σ tm w own) {s b clock clock':Nat}{k t:Ty}{ys:List (k.den×t.den)}{es es':Array MapEntry}(hs:s<σ.length) (hown:own s=[b]) (htm:tm.getD s undef=.map (some b))
  (hb:w.heap[b]? =some (.map es clock)) (hk:k.key=true) (hsz:es'.size=ys.length) (hinc:∀(i j:Nat) (e e':MapEntry),i<j→es'[i]? =some e→es'[j]? =some e'→e.born<e'.born) (hcl:∀(i:Nat) (e:MapEntry),es'[i]? =some e→e.born<clock') (hky:(∀p∈ys,k.keyOk p.1)∧(ys.map (·.1)).Nodup)
  (hx:∀(i:Nat) (e:MapEntry) (p:k.den×t.den),es'[i]? =some e→ys[i]? =some p→e.key=keyV k p.1∧qau w (C.free w own) t p.2 e.val):
  qac C (qk σ [⟨s,false,.mp k t ys⟩]) tm { w with heap:=w.heap.setIfInBounds b (.map es' clock') } own:=by
 obtain⟨hh1,hh2⟩:=MapKept.heap_set (o':= .map es' clock') hb;have hsz':({ w with heap:=w.heap.setIfInBounds b (.map es' clock') }:World).heap.size=w.heap.size:=by simp
 have eS:qt (qk σ [⟨s,false,.mp k t ys⟩]) s=((qt σ s).1,.mp k t ys):=qS σ ⟨s,false,_⟩ hs;have eN:∀x,x≠s→qt (qk σ [⟨s,false,.mp k t ys⟩]) x=qt σ x:=fun x hx=>qu σ ⟨s,false,_⟩ hx;have hfree:∀x,C.free w own x→x<w.heap.size→C.free { w with heap:=w.heap.setIfInBounds b (.map es' clock') } own x∧x<({ w with heap:=w.heap.setIfInBounds b (.map es' clock') }:World).heap.size∧({ w with heap:=w.heap.setIfInBounds b (.map es' clock') }:World).heap[x]? =w.heap[x]? :=fun x hx hlt=>
  ⟨⟨hx.1,by rw[hsz'];exact hlt,hx.2.2⟩,by rw[hsz'];exact hlt,hh2 x fun e=>hx.2.2 s (by rw[hown,e];simp)⟩
 refine h.update (fun x=>x=s) (qO _ _) rfl (fun x hx=>⟨eN x hx,rfl,rfl⟩) (fun x hx=>?_) ?_ (fun x hx=>hx▸hs) (fun x hx=>?_) (fun x x' b' hx hx' _ _=>hx.trans hx'.symm) (fun x hx=>?_) (fun x hx m hm=>?_)
 ·subst hx;right;refine⟨by rw[eS],rfl,fun b' _ hp=>?_⟩;rw[htm]at hp;cases hp
 ·refine⟨rfl,rfl,rfl,Nat.le_of_eq hsz'.symm,fun x hlt hn=>hh2 x fun e=>hn ⟨s,rfl,by rw[hown,e];simp⟩⟩
 ·subst hx;exact⟨fun b' hb'=>.inr ⟨x,rfl,hb'⟩,h.nodup x⟩
 ·subst hx;rw[eS];refine⟨b,htm,hown,es',clock',hh1,hsz,hk,hinc,hcl,hky,fun i e p hi hpp=>?_⟩;obtain⟨q1,q3⟩:=hx i e p hi hpp;exact⟨q1,q3.1.keep hfree,q3.2⟩
 ·subst hx;rw[eS]at hm;cases hm
theorem qin {es:Array MapEntry}{i j:Nat}{g:MapEntry→MapEntry}{e:MapEntry}(h:(es.modify i g)[j]? =some e):∃e0,es[j]? =some e0∧e=if i=j then g e0 else e0:=by
 rw[Array.getElem?_modify]at h;split at h
 ·rename_i hij;cases he:es[j]? with
  |none=>rw[he]at h;cases h
  |some e0=>
   rw[he]at h;injection h with h;exact⟨e0,rfl,by rw[if_pos hij];exact h.symm⟩
 ·rename_i hij;exact⟨e,h,by rw[if_neg hij]⟩
theorem qjx {α:Type}{es:Array α}{m i:Nat}{e:α}(h:(es.eraseIdxIfInBounds m)[i]? =some e) (hm:m<es.size):es[if i<m then i else i+1]? =some e:=by
 unfold Array.eraseIdxIfInBounds at h;rw[dif_pos hm,←Array.getElem?_toList,Array.toList_eraseIdx,List.getElem?_eraseIdx]at h;split at h
 ·rename_i hlt;rw[if_pos hlt,←Array.getElem?_toList];exact h
 ·rename_i hlt;rw[if_neg hlt,←Array.getElem?_toList];exact h
theorem qkh {α:Type}{xs:List α}{m i:Nat}{p:α}(h:(xs.eraseIdx m)[i]? =some p):xs[if i<m then i else i+1]? =some p:=by
 rw[List.getElem?_eraseIdx]at h;split at h
 ·rename_i hlt;rw[if_pos hlt];exact h
 ·rename_i hlt;rw[if_neg hlt];exact h
theorem qtJ (hE:qa2 E C.P) (h:qac C σ a.tmps w own) {t t':Nat}{ts:List Nat}{m1 k1:Op1}{mv kv:Value}(ho:qbB (sit C σ a.tmps w own) m1 mv) (hok:qbB (sit C σ a.tmps w own) k1 kv) (hlt:∀s,m1.s=some s→m1.a≠ .undef→s<σ.length) {f:Eff}
  (he:(qqw E o (t::t'::ts) m1 k1).run (qt σ)=some f) (hr:∃ty,(execOp a.eval o).run C.P w=((Builtin.delete_ (t::t'::ts).toArray ty #[mv,kv]).run C.P w).andThen fun v w'=>.ok (.value v) w'):qcW C o a w (qk σ f.upd):=by
 obtain⟨ty,hr⟩:=hr;unfold qqw at he;obtain⟨M,g3,he⟩:=Q.yb he;obtain⟨q,g4,he⟩:=Q.yb he;split at he;case isFalse=>cases he
 rename_i hcond;obtain⟨hty,hdst⟩:=hcond;have:=qI he;subst this;obtain⟨kn,vn,d,i,z,e1,e2,e3,e4,e5,e6⟩:=hE.map t M.k M.v hty;obtain⟨hl,htm,b,rfl,hown,hat⟩:=qrP h ho hlt g3;have hkv:=qqO h (qdZ e3) hok g4;obtain⟨es,clock,r3,r4,r5⟩:=hat.look e3 q.1;obtain⟨es',clock',r3',r4',r5',i1,i2,iky,r6⟩:=hat;have hee:es'=es∧clock'=clock:=by rw[r3]at r3';injection r3' with r3';injection r3' with q1 q2;exact⟨q1.symm,q2.symm⟩
 obtain⟨rfl,rfl⟩:=hee;have fin:∀w2,qac C (qk σ [⟨M.s,false,.mp M.k M.v (qvA M.xs q.1)⟩]) a.tmps w2 own→(execOp a.eval o).run C.P w=.ok (.value (.tuple #[])) w2→qcW C o a w (qk σ [⟨M.s,false,.mp M.k M.v (qvA M.xs q.1)⟩]):=fun w2 hs hx=>by
  refine qz hx ⟨own,?_⟩;have hdn:o.dst=none:=by cases hod:o.dst<;>simp[hod]at hdst⊢
  rw[hdn];exact hs
 rcases r5 with⟨s1,s2,s3⟩|⟨e,qq,s1,s2,s3,s4,s5,s6,s7⟩
 ·have hn:¬qfa M.xs q.1<M.xs.length:=by rw[qf4]at s1;simpa using s1
  have hdel:qvA M.xs q.1=M.xs:=by rw[qjy,List.eraseIdx_of_length_le (by omega)]
  refine fin _ (h.mapTurn (clock':=clock') (es':=es') hl hown htm r3 r5' (by rw[hdel];exact r4) i1 i2 (by rw[hdel];exact iky) (by rw[hdel];exact r6)) ?_;rw[hr,hkv];simp[Builtin.delete_,run_underlying e1,MapKept.run_getObj_map r3,MapKept.run_checkKey e2 (qc1 e3 q.1),MapKept.run_findKey e2 s3,MapKept.run_setObj_map _ r3]
 ·have hn:qfa M.xs q.1<M.xs.length:=by rw[qf4]at s1;simpa using s1
  refine fin _ (h.mapTurn (clock':=clock') (es':=es'.eraseIdxIfInBounds (qfa M.xs q.1)) hl hown htm r3 r5' ?_ (fun i j e e' hij hi hj=>?_) (fun i e hi=>i2 _ e (qjx hi (by omega))) ⟨fun p hp=>iky.1 p (by rw[qjy]at hp;exact List.mem_of_mem_eraseIdx hp),qtv iky.2 _⟩ (fun i e p hi hp=>?_)) ?_
  ·rw[qjy];unfold Array.eraseIdxIfInBounds;rw[dif_pos (by omega),Array.size_eraseIdx,List.length_eraseIdx_of_lt hn];omega
  ·have q1:=qjx hi (by omega);have q2:=qjx hj (by omega);refine i1 _ _ e e' ?_ q1 q2;split<;>split<;>omega
  ·rw[qjy]at hp;exact r6 _ e p (qjx hi (by omega)) (qkh hp)
  ·rw[hr,hkv];simp[Builtin.delete_,run_underlying e1,MapKept.run_getObj_map r3,MapKept.run_checkKey e2 (qc1 e3 q.1),MapKept.run_findKey e2 s7,MapKept.run_setObj_map _ r3]
end
end Go.Vi
namespace Go.Vi
open Go.RowKit
section
variable {C:Ctx}{E:Env}{σ:St}{tm:Array Value}{a:Act}{w w':World}{own:Nat→List Nat}{o:Oper}{p:qg3} [Tabbed E C]
def qvl (C:Ctx) (σ:St) (tm:Array Value) (w:World) (own:Nat→List Nat) (ro:Option (Nat×AV)) (b2:List Nat):Prop:=
 match ro with
 |none=>b2=[]
 |some p=>p.1<σ.length∧p.2.mentions=[]∧∃b1 b3,own p.1=b1++(b2++b3)∧∀W,qbc (fun k=>k∈b2) w W→qax { sit C σ tm w own with w:=W } p.2 (tm.getD p.1 undef) (b1++b3)
theorem qjf (h:qac C σ a.tmps w own) {o1:Op1}{v:Value}(ho:qbB (sit C σ a.tmps w own) o1 v) (hs:∀s,o1.s=some s→o1.a≠ .undef→s<σ.length) {r:Option (Nat×AV)×Nat×((e:Ty)×List e.den)}(he:(qju o1).run (qt σ)=some r):
  ∃b2,q8 w (C.free w own) r.2.1 r.2.2.1 r.2.2.2 v b2∧qvl C σ a.tmps w own r.1 b2:=by
 obtain⟨os,ov,oa⟩:=o1;unfold qju at he;cases oa with
 |own et e xs=>
  have:=Q.yc he;subst this;cases os with
  |none=>exact⟨[],ho,rfl⟩
  |some s=>exact⟨own s,ho.2.2,hs s rfl (by simp),rfl,[],[],by simp,fun W _=>trivial⟩
 |nilr et e=>
  have:=Q.yc he;subst this;rw[(ho.unowned rfl).2];exact⟨[],q8.nil_ w _ et e,rfl⟩
 |ref s v0=>
  simp only[Q.yd]at he;split at he
  ·rename_i hv;have hu:a.tmps.getD s undef=v:=(ho.unowned rfl).2 hv;have hat:=h.at_ s;rw[hu]at hat;split at he
   ·rename_i et e xs h3;rw[h3]at hat;have:=Q.yc he;subst this;refine⟨own s,hat,?_,rfl,[],[],by simp,fun W _=>trivial⟩;by_cases hlt:s<σ.length
    ·exact hlt
    ·have:qt σ s=(0,.undef):=by simp[qt,List.getD,zaD (Nat.le_of_not_lt hlt)]
     rw[this]at h3;cases h3
   ·cases he
  ·cases he
 |bref s v0 off u=>
  simp only at he;split at he
  ·rename_i hag;rw[Q.yd]at he;split at he
   ·rename_i hv;split at he
    ·rename_i r0 a0 h3 h4;obtain⟨et,e,xs⟩:=r0;have:=Q.yc he;subst this;obtain⟨hlt,b1,b2,b3,q1,q2,q3,q4⟩:=h.rowAt h3 (qg8 (ho.unowned rfl) hag hv);obtain⟨_,hm⟩:=q4 w (.hole 1) [] a0 (qbc.refl _ _) ⟨rfl,rfl⟩ h4;exact⟨b2,q1,hlt,hm,b1,b3,q2,fun W hk=>(q4 W (.hole 1) [] a0 hk ⟨rfl,rfl⟩ h4).1⟩
    ·cases he
   ·cases he
  ·cases he
 |_=>cases he
theorem qna {P:Program}{t ty e:Nat}{i:TypeInfo}{z:Value}{size bytes:Nat}(ht:P.underlying t=some (.slice e)) (hi:P.info? e=some i) (hz:i.zero=some z)
  (hsize:i.size=size) (hby:i.bytes=bytes) (hzs:z.cells.size=size) (hsz:0<size) {v:Value}{n:Nat}{xs:List Value}(hown:w.ownsRow 0 e size v n xs)
  {ad:Addr}{m c:Nat}{news:List Value}(hl:news.length=m*size) (hnews:∀j u,news[j]? =some u→w.cell? (ad.add j)=some u) (h1:∀u∈news,u.oneCell'=true)
  (h63:n+m≤maxLen) (hbytes:(n+m)*bytes≤140737488355328):
  ∃v' w',(Builtin.append_ #[t,t] ty #[v,.slice (some ad) m c]).run P w=.ok v' w'∧w'.ownsRow 0 e size v' (n+m) (xs++news)∧w.grownBy w' v.ownBlock∧
   ∀b∈v'.ownBlock.toList,(w.heap.size≤b∧b<w'.heap.size)∨b∈v.ownBlock.toList:=by
 obtain⟨v',w',k1,k2,k3,k4⟩:=run_append_own (P:=P) w 0 t ty e i z size bytes ht hi hz hsize hby hzs hsz v n xs hown ad m c news hl hnews h1 h63 hbytes (za6 _);refine⟨v',w',k1,k2,k3,?_⟩;subst hsize;subst hby;have hsmall:n+m≤9223372036854775807:=by simp only[maxLen]at h63;omega
 have fresh:∀ {cap:Nat}{o:Obj}{w1:World},w1.heap.size=w.heap.size→(Builtin.append_ #[t,t] ty #[v,.slice (some ad) m c]).run P w=.ok (.slice (some ⟨w.heap.size,0,none⟩) (n+m) cap) (w1.alloc o)→∀b∈v'.ownBlock.toList,(w.heap.size≤b∧b<w'.heap.size)∨b∈v.ownBlock.toList:=by
  intro cap o w1 hs hr b hb;rw[hr]at k1;injection k1 with e1 e2;subst e1;subst e2;simp[Value.ownBlock]at hb;subst hb;exact .inl ⟨zay _,by simp[hs]⟩
 rcases hown.2 with⟨rfl,rfl⟩|⟨g,cap,cur,rfl,hbg,hg,hnc,hcm,hcs,htake⟩
 ·have hx:xs=[]:=zaV (by simpa using hown.1);by_cases hm:m=0
  ·have:=(k4.2 ⟨rfl,hm⟩);subst this;intro b hb;cases hb
  ·have hr:=run_append_nil (P:=P) w t ty e i z ht hi hz ad m c news hl hnews (by omega) (by omega) (by have hb:=hbytes;simp only[zaM]at hb;omega);exact fresh (w1:=w.drew) (cap:=grownCap w m 0 e) (by rfl) (by rw[hr,zaM])
 ·by_cases hroom:n+m≤cap
  ·have hfit:n*i.size+news.length≤cur.size:=by rw[hl,hcs,←zbc];exact zaq _ hroom
   have hr:=run_append_room (P:=P) w t ty e i ht hi g n cap cur hg ad m c news hl hnews h1 hroom hfit;rw[hr]at k1;injection k1 with e1 e2;subst e1;intro b hb;exact .inr hb
  ·have holds:∀j u,xs[j]? =some u→w.cell? ((⟨g,0,none⟩:Addr).add j)=some u:=hown.cells (g:=g) rfl;have hr:=run_append_grow (P:=P) w t ty e i z ht hi hz ⟨g,0,none⟩ n cap xs hown.1 holds ad m c news hl hnews (by omega) (by omega) (growslice_fits (by omega) hbytes);exact fresh (w1:=w.drew) (by rfl) hr
theorem qng (h:qac C σ a.tmps w own) {d et:Nat}{e:Ty}{xs zs:List e.den}{ro:Option (Nat×AV)}{x:Value}{cells:List Value}(hmk:etM et=[]) (hdst:o.dst=some d) (c6:ro.map (·.1)≠some d) (hdl:d<σ.length)
  (hleft:qvl C σ a.tmps w own ro x.ownBlock.toList) (g1:w.ownsRow 0 et e.size x xs.length cells) (g3:∀(i:Nat) (u:e.den),xs[i]? =some u→Rep w (C.free w own) e u ((cells.drop (i*e.size)).take e.size))
  (key:∃v' w' news,(execOp a.eval o).run C.P w=.ok (.value v') w'∧w'.ownsRow 0 et e.size v' (xs.length+zs.length) (cells++news)∧w.grownBy w' x.ownBlock∧
   (∀b∈v'.ownBlock.toList,(w.heap.size≤b∧b<w'.heap.size)∨b∈x.ownBlock.toList)∧(∀(i:Nat) (u:e.den),zs[i]? =some u→Rep w (C.free w own) e u ((news.drop (i*e.size)).take e.size))):
  qcW C o a w (qk σ (qli ro++[⟨d,true,.own et e (qeT xs zs)⟩])):=by
 obtain⟨v',w',news,a1,a2,a3,a4,a5⟩:=key;refine qz (v:=v') (w':=w') a1 ?_;rw[qd0 a hdst];have hkept:qbc (fun k=>k∈x.ownBlock.toList) w w':=(qbc.yw a3).mono fun k hk=>by rw[←hk];simp
 have hnot:∀b,C.free w own b→some b≠x.ownBlock:=fun b hb e=>by
  cases ro with
  |none=>
   have:x.ownBlock.toList=[]:=hleft;rw[←e]at this;cases this
  |some p=>
   obtain⟨_,_,b1,b3,q2,_⟩:=hleft;refine hb.2.2 p.1 ?_;rw[q2,←e];exact zab _ (zac _ (by simp))
 have hfree:∀b,C.free w own b→b<w.heap.size→(C.free w own b)∧b<w'.heap.size∧w'.heap[b]? =w.heap[b]? :=fun b hb hlt=>⟨hb,zaE hlt a3.size,a3.block b hlt (hnot b hb)⟩;have hnd:v'.ownBlock.toList.Nodup:=by cases v'.ownBlock<;>simp
 have hrow:q8 w' (C.free w own) et e (qeT xs zs) v' v'.ownBlock.toList:=by
  refine qar.to hmk ⟨cells++news,by simpa[qbi]using a2,rfl,fun i u hi=>?_⟩;have hcl:cells.length=xs.length*e.size:=g1.1;by_cases hlt:i<xs.length
  ·have hi':xs[i]? =some u:=by
    rw[qbi]at hi;rwa [zaP hlt]at hi
   have hle:(i+1)*e.size≤xs.length*e.size:=zaq _ hlt;rw[zbc,Nat.one_mul]at hle;rw[qcz (by omega)];exact(g3 i u hi').keep hfree
  ·have hi':zs[i-xs.length]? =some u:=by
    rw[qbi]at hi;rwa [zaL (by omega)]at hi
   have hle:xs.length*e.size≤i*e.size:=zaq _ (by omega);rw[qck (by omega),hcl,←Nat.sub_mul];exact(a5 _ u hi').keep hfree
 cases ro with
 |none=>
  have h0:x.ownBlock.toList=[]:=hleft;exact h.mut hdl [] (fun _ hx=>by cases hx) (hkept.mono fun k hk=>by rw[h0]at hk;cases hk) (av:= .own et e (qeT xs zs)) (v:=v') (bs:=v'.ownBlock.toList) (fun b hb=>by
   rcases a4 b hb with h|h
   ·exact .inl h
   ·rw[h0]at h;cases h) hnd hrow rfl
 |some p=>
  obtain⟨q0,qm,b1,b3,q2,q4⟩:=hleft;have hne:p.1≠d:=fun e=>c6 (by rw[←e];rfl);exact h.mut2 hdl q0 hne q2 (hkept.mono fun k hk=>.inr hk) (fun b hb=>by
   rcases a4 b hb with h|h
   ·exact .inl h
   ·exact .inr (.inr h)) hnd hrow rfl (q4 w' hkept) qm
theorem qr5 (hE:qa2 E C.P) (h:qac C σ a.tmps w own) {t:Nat}{x1 y1:Op1}{x y:Value}(hx:qbB (sit C σ a.tmps w own) x1 x) (hxs:∀s,x1.s=some s→x1.a≠ .undef→s<σ.length) (hy:qbB (sit C σ a.tmps w own) y1 y)
  {f:Eff}(he:(qpW E o t x1 y1).run (qt σ)=some f) (hd:∀u∈f.upd,u.s<σ.length) (hc:qcT f.chk)
  (hr:∃ty,(execOp a.eval o).run C.P w=((Builtin.append_ #[t,t] ty #[x,y]).run C.P w).andThen fun v w=>.ok (.value v) w):qcW C o a w (qk σ f.upd):=by
 unfold qpW at he;obtain⟨r,h1,he⟩:=Q.yb he;obtain⟨q,h2,he⟩:=Q.yb he;split at he;case h_2=>cases he
 rename_i d hdst;split at he;case isFalse=>cases he
 rename_i hcond;obtain⟨c1,c2,hmk,c3,c4,c5,c6⟩:=hcond;split at he;case h_2=>cases he
 rename_i ys hys;have:=Q.yc he;subst this;obtain⟨bs,r1,r2⟩:=qjf h hx hxs h1;have hrow:=qqC h hy h2;obtain⟨i,z,k1,k2,k3,k4,k5,k6,k7⟩:=hE.elem' c1;obtain⟨ro,et,⟨e,xs⟩⟩:=r;obtain⟨⟨e',zs⟩,qo⟩:=q;simp only at c1 c2 hmk c3 c4 c5 c6 r1 r2 hrow hd hc hys k3 k5 k7⊢
 have hee:e'=e:=by
  obtain⟨e1,_⟩:=Ty.ye hys;injection e1
 subst hee;have hzs:zs=ys:=by
  obtain⟨e1,e2⟩:=Ty.ye hys;exact e2
 subst hzs;obtain⟨cells,g1,g2,g3⟩:=r1.to0 hmk;obtain⟨ty,hr⟩:=hr;have hroom:((xs.length:Int)+(zs.length:Int))*(E.bytes et:Int)≤140737488355328:=by
  have:=hc _ (zat.2 rfl);rw[qhZ,qp,qp]at this;exact of_decide_eq_true this
 have hbytes:(xs.length+zs.length)*E.bytes et≤140737488355328:=by
  have:(((xs.length+zs.length)*E.bytes et:Nat):Int)≤140737488355328:=by
   rw[Int.natCast_mul,Int.natCast_add];exact hroom
  omega
 have h63:xs.length+zs.length≤maxLen:=by
  have:(xs.length+zs.length)*1≤(xs.length+zs.length)*E.bytes et:=Nat.mul_le_mul_left _ (by omega);simp only[maxLen];omega
 have hdl:d<σ.length:=hd ⟨d,true,.own et e' (qeT xs zs)⟩ (by simp);rw[g2]at r2;have key:∃v' w' news,(execOp a.eval o).run C.P w=.ok (.value v') w'∧w'.ownsRow 0 et e'.size v' (xs.length+zs.length) (cells++news)∧w.grownBy w' x.ownBlock∧
   (∀b∈v'.ownBlock.toList,(w.heap.size≤b∧b<w'.heap.size)∨b∈x.ownBlock.toList)∧(∀(i:Nat) (u:e'.den),zs[i]? =some u→Rep w (C.free w own) e' u ((news.drop (i*e'.size)).take e'.size)):=by
  rcases hrow with⟨rfl,hz0⟩|⟨ad,cap,news,rfl,n1,n2,n3⟩
  ·have hz0:zs=[]:=hz0;subst hz0;refine⟨x,w,[],?_,by simpa using g1,⟨rfl,rfl,rfl,zay _,fun _ _ _=>rfl⟩,fun b hb=>.inr hb,fun i u hi=>by cases hi⟩;rw[hr];rw[run_append_owned_none (w:=w) 0 t ty et i e'.size (by rw[k1,c2]) (by rw[c2];exact k2) x xs.length cells g1];rfl
  ·obtain⟨v',w',a1,a2,a3,a4⟩:=qna (P:=C.P) (t:=t) (ty:=ty) (e:=et) (i:=i) (z:=z) (size:=e'.size) (bytes:=E.bytes et) (by rw[k1,c2]) (by rw[c2];exact k2) k4 k3 (by rw[k6,c2]) k5 (by omega) g1 (c:=cap) n1 n2 (by
    intro u hu;obtain⟨j,hj,rfl⟩:=zaw hu;have hpos:0<e'.size:=by omega
    have hjlt:j/e'.size<zs.length:=(Nat.div_lt_iff_lt_mul hpos).2 (by rw[←n1];exact hj);have hrep:=n3 _ _ (zaa hjlt);have hm:=Nat.mod_lt j hpos;have hdm:j/e'.size*e'.size+j%e'.size=j:=by rw[Nat.mul_comm];exact Nat.div_add_mod j _
    refine hrep.oneCell _ (zaU (i:=j%e'.size) ?_);rw[zal,if_pos hm,zan,hdm];exact zaa hj) h63 hbytes
   exact⟨v',w',news,by rw[hr,a1];rfl,a2,a3,a4,n3⟩
 exact qng h hmk hdst c6 hdl r2 g1 g3 key
theorem qax.toX {C:Ctx}{σ:St}{tm:Array Value}{w w':World}{own:Nat→List Nat}{a:AV}{v:Value}{bs:List Nat}(h:qax { sit C σ tm w own with w:=w' } a v bs) (hm:a.mentions=[]) {X':Sit}(hP:X'.P=C.P) (hpn:X'.pn=C.pn) (hw:X'.w=w') (hF:∀b,C.free w own b→X'.F b):qax X' a v bs:=
 qax.keep (X:= { sit C σ tm w own with w:=w' }) (X':=X') ⟨hP,hpn⟩ (fun b hb hlt=>⟨hF b hb,by rw[hw];exact hlt,by rw[hw]⟩) (fun b _ _=>by rw[hw]) (fun m hmm=>by rw[hm]at hmm;cases hmm) h
theorem qrC {e:Ty}{R:e.den→List Value→List Nat→Prop}{xs ys:List e.den}{cx cy:List Value}{bx by_:List (List Nat)}(hcx:cx.length=xs.length*e.size) (hbx:bx.length=xs.length)
  (h1:∀(i:Nat) (x:e.den) (b:List Nat),xs[i]? =some x→bx[i]? =some b→R x ((cx.drop (i*e.size)).take e.size) b)
  (h2:∀(i:Nat) (x:e.den) (b:List Nat),ys[i]? =some x→by_[i]? =some b→R x ((cy.drop (i*e.size)).take e.size) b):
  ∀(i:Nat) (x:e.den) (b:List Nat),(xs++ys)[i]? =some x→(bx++by_)[i]? =some b→R x (((cx++cy).drop (i*e.size)).take e.size) b:=by
 intro i x b hi hb;by_cases hlt:i<xs.length
 ·rw[zaP hlt]at hi;rw[zaP (by omega)]at hb;have hle:(i+1)*e.size≤xs.length*e.size:=zaq _ hlt;rw[zbc,Nat.one_mul]at hle;rw[qcz (by omega)];exact h1 i x b hi hb
 ·rw[zaL (by omega)]at hi hb;rw[hbx]at hb;have hle:xs.length*e.size≤i*e.size:=zaq _ (by omega);rw[qck (by omega),hcx,←Nat.sub_mul];exact h2 _ x b hi hb
theorem qcP.oneCell {w:World}{F:Nat→Prop}: {c:BC}→{cs:List Value}→{bs:List Nat}→c.sound=true→qcP w F c cs bs→∀v∈cs,v.oneCell'=true
 |.val _ _,_,_,_,h=>h.2.oneCell
 |.own _ _ _,_,_,_,⟨v,h1,h2⟩=>fun u hu=>by
  rw[h1]at hu;rw[zat.1 hu];obtain⟨cells,ho,_⟩:=h2;rcases ho.2 with⟨rfl,_⟩|⟨g,cap,cur,rfl,_⟩<;>rfl
 |.pair _ _,_,_,hs,⟨c1,c2,_,_,rfl,_,h1,h2⟩=>fun v hv=>by
  simp only[BC.sound,zad]at hs;rcases zaj.1 hv with hv|hv
  ·exact h1.oneCell hs.1 v hv
  ·exact h2.oneCell hs.2 v hv
 |.hole _,_,_,hs,_=>by simp[BC.sound]at hs
theorem qlz {m:Msk}:(t:Ty)→(x:t.den)→(off:Nat)→(bcM m (0,0) t x off).sound=true
 |.pair a b,x,off=>by
  unfold bcM;split
  ·simp[BC.sound,qlz a,qlz b]
  ·rfl
 |.slice e,xs,off=>by
  unfold bcM;rw[qft];split<;>rfl
 |.int _,_,_=>rfl
 |.bool,_,_=>rfl
 |.str,_,_=>rfl
 |.unit,_,_=>rfl
 |.arr _ _,_,_=>rfl
 |.err,_,_=>rfl
 |.opt _,_,_=>rfl
 |.map _ _,_,_=>rfl
theorem q8.yq {w:World}{F:Nat→Prop}{et:Nat}{e:Ty}{xs:List e.den}{cells:List Value}{bss:List (List Nat)}(hl:cells.length=xs.length*e.size) (hb:bss.length=xs.length)
  (h:∀(i:Nat) (x:e.den) (b:List Nat),xs[i]? =some x→bss[i]? =some b→qcP w F (bcM (etM et) (qoP (-1,0,0) i) e x 0) ((cells.drop (i*e.size)).take e.size) b):∀u∈cells,u.oneCell'=true:=by
 intro u hu;obtain⟨j,hj,rfl⟩:=zaw hu;have hpos:0<e.size:=by
  rcases Nat.eq_zero_or_pos e.size with h0|h0
  ·rw[h0,Nat.mul_zero]at hl;omega
  ·exact h0
 have hjlt:j/e.size<xs.length:=(Nat.div_lt_iff_lt_mul hpos).2 (by rw[←hl];exact hj);have hrep:=h _ _ _ (zaa hjlt) (zaa (show j/e.size<bss.length by omega));rw[qcc]at hrep;have hm:=Nat.mod_lt j hpos;have hdm:j/e.size*e.size+j%e.size=j:=by rw[Nat.mul_comm];exact Nat.div_add_mod j _
 refine hrep.oneCell (qlz _ _ _) _ (zaU (i:=j%e.size) ?_);rw[zal,if_pos hm,zan,hdm];exact zaa hj
theorem qrr (hE:qa2 E C.P) (h:qac C σ a.tmps w own) {t:Nat}{x1 y1:Op1}{x y:Value}(hx:qbB (sit C σ a.tmps w own) x1 x) (hxs:∀s,x1.s=some s→x1.a≠ .undef→s<σ.length) (hy:qbB (sit C σ a.tmps w own) y1 y)
  {f:Eff}(he:(qpM E o t x1 y1).run (qt σ)=some f) (hd:∀u∈f.upd,u.s<σ.length) (hc:qcT f.chk)
  (hr:∃ty,(execOp a.eval o).run C.P w=((Builtin.append_ #[t,t] ty #[x,y]).run C.P w).andThen fun v w=>.ok (.value v) w):qcW C o a w (qk σ f.upd):=by
 obtain⟨ys1,yv,ya⟩:=y1;unfold qpM at he;obtain⟨r,h1,he2⟩:=Q.yb he;clear he;have he:=he2;clear he2;split at he;case h_2=>cases he
 rename_i d sy et' e' ys hdst hys1 hya;simp only at hys1 hya;subst hys1;subst hya;split at he;case isFalse=>cases he
 rename_i hcond;obtain⟨c1,c2,c3,c4,c5,c6,c7,c8⟩:=hcond;split at he;case h_2=>cases he
 rename_i zs hzs;have:=Q.yc he;subst this;obtain⟨b2,r1,r2⟩:=qjf h hx hxs h1;obtain⟨i,z,k1,k2,k3,k4,k5,k6,k7⟩:=hE.elem' c1;obtain⟨ro,et,⟨e,xs⟩⟩:=r;simp only at c1 c2 c3 c4 c5 c6 c7 c8 r1 r2 hd hc hzs k3 k5 k7⊢
 subst c3;have hee:e'=e:=by
  obtain⟨e1,_⟩:=Ty.ye hzs;injection e1
 subst hee;have hzy:ys=zs:=by
  obtain⟨e1,e2⟩:=Ty.ye hzs;exact e2
 subst hzy;obtain⟨hy0,hyv,hyr⟩:=hy;obtain⟨cx,bx,g1,g2,g3,g4⟩:=r1;obtain⟨cy,by_,m1,m2,m3,m4⟩:=hyr;have m3:own sy=y.ownBlock.toList++by_.flatten:=m3;obtain⟨ty,hr⟩:=hr;have hroom:((xs.length:Int)+(ys.length:Int))*(E.bytes (etB et):Int)≤140737488355328:=by
  have:=hc _ (zat.2 rfl);rw[qhZ,qp,qp]at this;exact of_decide_eq_true this
 have hbytes:(xs.length+ys.length)*E.bytes (etB et)≤140737488355328:=by
  have:(((xs.length+ys.length)*E.bytes (etB et):Nat):Int)≤140737488355328:=by
   rw[Int.natCast_mul,Int.natCast_add];exact hroom
  omega
 have h63:xs.length+ys.length≤maxLen:=by
  have:(xs.length+ys.length)*1≤(xs.length+ys.length)*E.bytes (etB et):=Nat.mul_le_mul_left _ (by omega);simp only[maxLen];omega
 have hdl:d<σ.length:=hd ⟨d,true,.own et e' (qeT xs ys)⟩ (by simp);have hsyl:sy<σ.length:=hd ⟨sy,true,.undef⟩ (by simp);have key:∃v' w',(execOp a.eval o).run C.P w=.ok (.value v') w'∧w'.ownsRow 0 (etB et) e'.size v' (xs.length+ys.length) (cx++cy)∧w.grownBy w' x.ownBlock∧
   (∀b∈v'.ownBlock.toList,(w.heap.size≤b∧b<w'.heap.size)∨b∈x.ownBlock.toList):=by
  rcases m1.2 with⟨q1,q2⟩|⟨g,cap,cur,q1,q2,q3,q4,q5,q6,q7⟩
  ·have hcy:cy=[]:=zaV (by rw[m1.1,q2,Nat.zero_mul]);refine⟨x,w,?_,by rw[q2,hcy,zbf,zar];exact g1,⟨rfl,rfl,rfl,zay _,fun _ _ _=>rfl⟩,fun b hb=>.inr hb⟩;rw[hr,q1];rw[run_append_owned_none (w:=w) 0 t ty (etB et) i e'.size (by rw[k1,c2]) (by rw[c2];exact k2) x xs.length cx g1];rfl
  ·obtain⟨v',w',a1,a2,a3,a4⟩:=qna (P:=C.P) (t:=t) (ty:=ty) (e:=etB et) (i:=i) (z:=z) (size:=e'.size) (bytes:=E.bytes (etB et)) (by rw[k1,c2]) (by rw[c2];exact k2) k4 k3 (by rw[k6,c2]) k5 (by omega) g1 (ad:=⟨g,0,none⟩) (m:=ys.length) (c:=cap) (news:=cy) m1.1 (m1.cells (by rw[q1];rfl)) (q8.yq m1.1 m2 m4) h63 hbytes;exact⟨v',w',by rw[hr,q1,a1];rfl,a2,a3,a4⟩
 obtain⟨v',w',a1,a2,a3,a4⟩:=key;refine qz (v:=v') (w':=w') a1 ?_;rw[qd0 a hdst];have hkept:qbc (fun k=>k∈x.ownBlock.toList) w w':=(qbc.yw a3).mono fun k hk=>by rw[←hk];simp
 obtain⟨A,B,hro,hA⟩:∃A B:List Nat,(∀q,ro=some q→q.1<σ.length∧q.2.mentions=[]∧own q.1=A++(b2++B)∧∀W,qbc (fun k=>k∈b2) w W→qax { sit C σ a.tmps w own with w:=W } q.2 (a.tmps.getD q.1 undef) (A++B))∧(ro=none→b2=[]):=by
  cases ro with
  |none=>exact⟨[],[],⟨(fun q hq=>by cases hq),fun _=>r2⟩⟩
  |some q0=>
   obtain⟨q1,q2,b1,b3,q3,q4⟩:=r2;exact⟨b1,b3,(fun q hq=>by injection hq with hq;subst hq;exact⟨q1,q2,q3,q4⟩),(fun hn=>by cases hn)⟩
 have hxb:∀b∈x.ownBlock.toList,b∈b2:=fun b hb=>by rw[g3];exact zac _ hb
 have hbx:∀b∈bx.flatten,b∈b2:=fun b hb=>by rw[g3];exact zab _ hb
 have hby:∀b∈by_.flatten,b∈own sy:=fun b hb=>by rw[m3];exact zab _ hb
 have hb2o:∀b∈b2,∃q,ro=some q∧b∈own q.1:=fun b hb=>by
  cases hq:ro with
  |none=>rw[hA hq]at hb;cases hb
  |some q=>exact⟨q,rfl,by rw[(hro q hq).2.2.1];exact zab _ (zac _ hb)⟩
 have hb2n:b2.Nodup:=by
  cases hq:ro with
  |none=>rw[hA hq];exact zaH
  |some q=>
   have:=h.nodup q.1;rw[(hro q hq).2.2.1]at this;exact(zah.1 (zah.1 this).2.1).1
 have hro1:∀q,ro=some q→q.1≠d∧q.1≠sy:=fun q hq=>⟨fun e=>c6 (by rw[hq,←e];rfl),fun e=>c7 (by rw[hq,←e];rfl)⟩;have hdis:∀b∈b2,b∈own sy→False:=fun b hb hs=>by
  obtain⟨q,hq,hbq⟩:=hb2o b hb;exact(hro1 q hq).2 (h.apart q.1 sy b hbq hs)
 have hynd:=h.nodup sy;rw[m3]at hynd;have hb2n':=hb2n;rw[g3]at hb2n';have hvn:v'.ownBlock.toList.Nodup:=by cases v'.ownBlock<;>simp
 have hold:∀b∈b2,b<w.heap.size:=fun b hb=>by obtain⟨q,hq,hbq⟩:=hb2o b hb;exact(h.mine _ _ hbq).2
 have hoy:∀b∈own sy,b<w.heap.size:=fun b hb=>(h.mine _ _ hb).2;have hvx:∀b∈v'.ownBlock.toList,b∉bx.flatten∧b∉by_.flatten:=fun b hb=>by
  rcases a4 b hb with⟨h1,_⟩|h1
  ·exact⟨fun hm=>by have:=hold b (hbx b hm);omega,fun hm=>by have:=hoy b (hby b hm);omega⟩
  ·exact⟨fun hm=>(zah.1 hb2n').2.2 b h1 b hm rfl,fun hm=>hdis b (hxb b h1) (hby b hm)⟩
 let nbd:=v'.ownBlock.toList++(bx++by_).flatten;have hnbd:nbd.Nodup:=by
  refine zah.2 ⟨hvn,?_,fun b hb b' hb' e=>?_⟩
  ·rw[List.flatten_append];exact zah.2 ⟨(zah.1 hb2n').2.1,(zah.1 hynd).2.1,fun b hb b' hb' e=>by subst e;exact hdis b (hbx b hb) (hby b hb')⟩
  ·subst e;rw[List.flatten_append]at hb';rcases zaj.1 hb' with hb'|hb'
   ·exact(hvx b hb).1 hb'
   ·exact(hvx b hb).2 hb'
 have hnin:∀b∈nbd,(w.heap.size≤b∧b<w'.heap.size)∨b∈b2∨b∈own sy:=fun b hb=>by
  rcases zaj.1 hb with hb|hb
  ·rcases a4 b hb with h1|h1
   ·exact .inl h1
   ·exact .inr (.inl (hxb b h1))
  ·rw[List.flatten_append]at hb;rcases zaj.1 hb with hb|hb
   ·exact .inr (.inl (hbx b hb))
   ·exact .inr (.inr (hby b hb))
 have hnot:∀b,C.free w own b→b∉x.ownBlock.toList:=fun b hb hm=>by
  obtain⟨q,hq,hbq⟩:=hb2o b (hxb b hm);exact hb.2.2 _ hbq
 let nb:Nat→List Nat:=fun s=>if s=d then nbd else if s=sy then[]else A++B
 have nD:nb d=nbd:=by simp[nb]
 have nS:nb sy=[]:=by simp[nb,c8]
 have nR:∀q,ro=some q→nb q.1=A++B:=fun q hq=>by simp[nb,(hro1 q hq).1,(hro1 q hq).2]
 have mem:∀u,u∈qli ro++[⟨sy,true,.undef⟩,⟨d,true,.own et e' (qeT xs ys)⟩]→(∃q,ro=some q∧u=⟨q.1,true,q.2⟩)∨u=⟨sy,true,.undef⟩∨u=⟨d,true,.own et e' (qeT xs ys)⟩:=fun u hu=>by
  rcases zaj.1 hu with hu|hu
  ·left;cases hq:ro with
   |none=>rw[hq]at hu;cases hu
   |some q=>rw[hq]at hu;exact⟨q,rfl,by simpa[qli]using hu⟩
  ·right;simpa using hu
 have inR:∀q,ro=some q→(⟨q.1,true,q.2⟩:U)∈qli ro++[⟨sy,true,.undef⟩,⟨d,true,.own et e' (qeT xs ys)⟩]:=fun q hq=>by rw[hq];simp[qli]
 have inS:(⟨sy,true,.undef⟩:U)∈qli ro++[⟨sy,true,.undef⟩,⟨d,true,.own et e' (qeT xs ys)⟩]:=by simp
 have ABn:∀q,ro=some q→(A++B).Nodup∧(∀b∈A++B,b∈own q.1∧b∉b2):=fun q hq=>by
  have h0:=h.nodup q.1;rw[(hro q hq).2.2.1]at h0;have n1:=zah.1 h0;have n2:=zah.1 n1.2.1;refine⟨zah.2 ⟨n1.1,n2.2.1,fun b hb b' hb'=>n1.2.2 b hb b' (zab _ hb')⟩,fun b hb=>⟨?_,fun hb2=>?_⟩⟩
  ·rw[(hro q hq).2.2.1];rcases zaj.1 hb with hb|hb
   ·exact zac _ hb
   ·exact zab _ (zab _ hb)
  ·rcases zaj.1 hb with hb|hb
   ·exact n1.2.2 b hb b (zac _ hb2) rfl
   ·exact n2.2.2 b hb2 b hb rfl
 have dR:∀q,ro=some q→∀b,b∈A++B→b∈nbd→False:=fun q hq b h1 h2=>by
  obtain⟨g5,g6⟩:=(ABn q hq).2 b h1;rcases hnin b h2 with h3|h3|h3
  ·have:=(h.mine q.1 b g5).2;omega
  ·exact g6 h3
  ·exact(hro1 q hq).2 (h.apart q.1 sy b g5 h3)
 refine Exists.elim (h.multi (tm':=a.tmps.setIfInBounds d v') (w':=w') (qli ro++[⟨sy,true,.undef⟩,⟨d,true,.own et e' (qeT xs ys)⟩]) nb ?_ (fun u hu=>hd u hu) (by simp) (fun s hs=>qah _ _ fun e=>hs (by rw[e];simp)) (fun u hu=>?_) (hkept.mono fun k hk=>?_) (fun u hu=>?_) (fun u hu u' hu' b hb hb'=>?_) ?_ (fun u hu m hm=>?_)) fun own' hfin=>⟨own',hfin.1⟩
 ·cases hq:ro with
  |none=>simp[qli,c8]
  |some q=>simp[qli,(hro1 q hq).1,(hro1 q hq).2,c8]
 ·rcases mem u hu with⟨q,_,rfl⟩|rfl|rfl<;>exact .inl rfl
 ·obtain⟨q,hq,hbq⟩:=hb2o k (hxb k hk);exact⟨_,inR q hq,hbq⟩
 ·rcases mem u hu with⟨q,hq,rfl⟩|rfl|rfl
  ·simp only[nR q hq];exact⟨fun b hb=>.inr ⟨_,inR q hq,((ABn q hq).2 b hb).1⟩,(ABn q hq).1⟩
  ·simp only[nS];exact⟨(fun b hb=>by cases hb),zaH⟩
  ·simp only[nD];refine⟨fun b hb=>?_,hnbd⟩;rcases hnin b hb with h1|h1|h1
   ·exact .inl h1
   ·obtain⟨q,hq,hbq⟩:=hb2o b h1;exact .inr ⟨_,inR q hq,hbq⟩
   ·exact .inr ⟨_,inS,h1⟩
 ·rcases mem u hu with⟨q,hq,rfl⟩|rfl|rfl<;>rcases mem u' hu' with⟨q',hq',rfl⟩|rfl|rfl
  ·rw[hq]at hq';injection hq' with hq';rw[hq']
  ·simp only[nS]at hb';cases hb'
  ·simp only[nR q hq]at hb;simp only[nD]at hb';exact(dR q hq b hb hb').elim
  ·simp only[nS]at hb;cases hb
  ·rfl
  ·simp only[nS]at hb;cases hb
  ·simp only[nR q' hq']at hb';simp only[nD]at hb;exact(dR q' hq' b hb' hb).elim
  ·simp only[nS]at hb';cases hb'
  ·rfl
 ·intro X' hP hpn hw hF hF2 hver htm u hu;rcases mem u hu with⟨q,hq,rfl⟩|rfl|rfl
  ·simp only[nR q hq];rw[qah _ _ (hro1 q hq).1];exact((hro q hq).2.2.2 w' (hkept.mono fun k hk=>hxb k hk)).toX (hro q hq).2.1 hP hpn hw hF
  ·trivial
  ·simp only[nD];rw[qbd _ _ (by rw[h.size];exact hdl)];refine⟨cx++cy,bx++by_,by rw[hw];simpa[qbi]using a2,by simp[qbi,g2,m2],rfl,?_⟩;rw[qbi,hw];simp only[qcc];refine qrC (R:=fun x cs b=>qcP w' X'.F (bcM (etM et) (0,0) e' x 0) cs b) g1.1 g2 (fun i x b hi hb=>?_) (fun i x b hi hb=>?_)
   ·have:=g4 i x b hi hb;rw[qcc]at this;refine this.keep (fun b hb hlt=>⟨hF b hb,zaE hlt a3.size,hkept.block b hlt (hnot b hb)⟩) fun k hk hlt=>hkept.block k hlt fun hm=>?_;exact(zah.1 hb2n').2.2 k hm k (List.mem_flatten.2 ⟨b,zaU hb,hk⟩) rfl
   ·have:=m4 i x b hi hb;rw[qcc]at this;refine this.keep (fun b hb hlt=>⟨hF b hb,zaE hlt a3.size,hkept.block b hlt (hnot b hb)⟩) fun k hk hlt=>hkept.block k hlt fun hm=>?_;exact hdis k (hxb k hm) (hby k (List.mem_flatten.2 ⟨b,zaU hb,hk⟩))
 ·rcases mem u hu with⟨q,hq,rfl⟩|rfl|rfl
  ·rw[(hro q hq).2.1]at hm;cases hm
  ·cases hm
  ·cases hm
theorem qpU {P:Program}{t u ty e:Nat}{i:TypeInfo}(ht:P.underlying t=some (.slice e)) (hu:P.underlying u=some .string) (hi:P.info? e=some i) (hz:i.zero=some (.int .u8 0))
  (hsize:i.size=1) (hby:i.bytes=1) {v:Value}{n:Nat}{xs:List Value}(hown:w.ownsRow 0 e 1 v n xs) (s:ByteArray) (h63:n+s.size≤maxLen) (hbytes:n+s.size≤140737488355328):
  ∃v' w',(Builtin.append_ #[t,u] ty #[v,.string s]).run P w=.ok v' w'∧w'.ownsRow 0 e 1 v' (n+s.size) (xs++Lib.strCells s)∧w.grownBy w' v.ownBlock∧
   ∀b∈v'.ownBlock.toList,(w.heap.size≤b∧b<w'.heap.size)∨b∈v.ownBlock.toList:=by
 obtain⟨v',w',k1,k2,k3,k4⟩:=Lib.run_append_own_string (P:=P) w 0 t u ty e i ht hu hi hz hsize hby v n xs hown s h63 hbytes (za6 _);refine⟨v',w',k1,k2,k3,?_⟩;have hsmall:n+s.size≤9223372036854775807:=by simp only[maxLen]at h63;omega
 have fresh:∀ {cap:Nat}{o:Obj}{w1:World}{m:Nat},w1.heap.size=w.heap.size→(Builtin.append_ #[t,u] ty #[v,.string s]).run P w=.ok (.slice (some ⟨w.heap.size,0,none⟩) m cap) (w1.alloc o)→∀b∈v'.ownBlock.toList,(w.heap.size≤b∧b<w'.heap.size)∨b∈v.ownBlock.toList:=by
  intro cap o w1 m hs hr b hb;rw[hr]at k1;injection k1 with e1 e2;subst e1;subst e2;simp[Value.ownBlock]at hb;subst hb;exact .inl ⟨zay _,by simp[hs]⟩
 rcases hown.2 with⟨rfl,rfl⟩|⟨g,cap,cur,rfl,hbg,hg,hnc,hcm,hcs,htake⟩
 ·by_cases hm:s.size=0
  ·have:=(k4.2 ⟨rfl,hm⟩);subst this;intro b hb;cases hb
  ·have hr:=run_append_nil_string (P:=P) w t u ty e i (.int .u8 0) ht hu hi hz s (by omega) (by omega) (by rw[hby];omega);exact fresh (w1:=w.drew) (by rfl) hr
 ·by_cases hroom:n+s.size≤cap
  ·have hcs':cur.size=cap:=by simpa using hcs
   have hr:=Lib.run_append_room_string (P:=P) w t u ty e i ht hu hi hsize g n cap cur hg s hroom (by omega);rw[hr]at k1;injection k1 with e1 e2;subst e1;intro b hb;exact .inr hb
  ·have holds:∀j x,xs[j]? =some x→w.cell? ((⟨g,0,none⟩:Addr).add j)=some x:=hown.cells (g:=g) rfl;have hr:=Lib.run_append_grow_string (P:=P) w t u ty e i (.int .u8 0) ht hu hi hz ⟨g,0,none⟩ n cap xs (by rw[hsize];exact hown.1) holds s (by omega) (by omega) (by rw[hby];exact growslice_fits (by omega) (by omega));exact fresh (w1:=w.drew) (by rfl) hr
theorem qhy {l:List Value}{i:Nat}{u:Value}(h:l[i]? =some u):(l.drop (i*1)).take 1=[u]:=by
 rw[Nat.mul_one];obtain⟨hi,rfl⟩:=zao.1 h;rw[zaO hi];rfl
theorem qrJ (hE:qa2 E C.P) (h:qac C σ a.tmps w own) {t t':Nat}{x1 y1:Op1}{x y:Value}(hx:qbB (sit C σ a.tmps w own) x1 x) (hxs:∀s,x1.s=some s→x1.a≠ .undef→s<σ.length) (hy:qbB (sit C σ a.tmps w own) y1 y)
  {f:Eff}(he:(qql E o t t' x1 y1).run (qt σ)=some f) (hd:∀u∈f.upd,u.s<σ.length) (hc:qcT f.chk)
  (hr:∃ty,(execOp a.eval o).run C.P w=((Builtin.append_ #[t,t'] ty #[x,y]).run C.P w).andThen fun v w=>.ok (.value v) w):qcW C o a w (qk σ f.upd):=by
 unfold qql at he;obtain⟨r,h1,he⟩:=Q.yb he;obtain⟨q,h2,he⟩:=Q.yb he;split at he;case h_2=>cases he
 rename_i d hdst;split at he;case isFalse=>cases he
 rename_i hcond;obtain⟨c1,c2,hmk,c3,c5,c6⟩:=hcond;split at he;case h_2=>cases he
 rename_i xs0 hxs0;have:=Q.yc he;subst this;obtain⟨bs,r1,r2⟩:=qjf h hx hxs h1;obtain⟨i,z,k1,k2,k3,k4,k5,k6,k7⟩:=hE.elem' c1;obtain⟨ro,et,⟨e,xs⟩⟩:=r;simp only at c1 c2 hmk c3 c5 c6 r1 r2 hd hc hxs0⊢
 have hee:e=.int .u8:=by
  obtain⟨e1,_⟩:=Ty.ye hxs0;injection e1
 subst hee;have hzs:xs=xs0:=by
  obtain⟨e1,e2⟩:=Ty.ye hxs0;exact e2
 subst hzs;obtain⟨s,qo⟩:=q;simp only at hd hc⊢
 obtain⟨e2,hsl⟩:=qau.str (qc8 h hy h2);obtain⟨cells,g1,g2,g3⟩:=r1.to0 hmk;obtain⟨ty,hr⟩:=hr;rw[g2]at r2;have hroom:(xs.length:Int)+(s.length:Int)≤140737488355328:=by
  have:=hc _ (zat.2 rfl);rw[qhZ,qp,qp]at this;have:=of_decide_eq_true this;simpa using this
 have hz:z=.int .u8 0:=by
  have hrep:z.cells.toList=[.int .u8 0]:=(k7 w (fun _=>True)).1;obtain⟨i',z',q1,q2,q3,_⟩:=hE.dflt t _ c1;rw[k2]at q1;injection q1 with q1;subst q1;rw[k4]at q2;injection q2 with q2;subst q2;have q3:=q3 rfl;cases z with
  |agg cs=>exact absurd rfl (q3 cs)
  |_=>simpa[Value.cells]using hrep
 refine qng h hmk hdst c6 (hd ⟨d,true,.own et (.int .u8) (qeT xs (ql3 s))⟩ (by simp)) r2 g1 g3 ?_;have hss:(⟨s.toArray⟩:ByteArray).size=s.length:=by simp[ByteArray.size]
 have g1':w.ownsRow 0 et 1 x xs.length cells:=g1;obtain⟨v',w',a1,a2,a3,hfresh⟩:=qpU (P:=C.P) (w:=w) (t:=t) (u:=t') (ty:=ty) (e:=et) (i:=i) (by rw[k1,c2]) (hE.str t' c5) (by rw[c2];exact k2) (by rw[k4,hz]) k3 (by rw[k6,←c2,c3]) g1' ⟨s.toArray⟩ (by rw[hss];simp only[maxLen];omega) (by rw[hss];omega);refine⟨v',w',Lib.strCells ⟨s.toArray⟩,by rw[hr,e2,a1];rfl,?_,a3,hfresh,fun i u hi=>?_⟩
 ·rw[show(ql3 s).length=s.length by rw[qgR];simp];rw[hss]at a2;exact a2
 ·rw[qgR]at hi;rw[List.getElem?_map]at hi;obtain⟨b,hb,rfl⟩:=zaB.1 hi;have:(Lib.strCells ⟨s.toArray⟩)[i]? =some (.int .u8 b.toNat):=by
   simp only[Lib.strCells,List.getElem?_map,hb,Option.map_some]
  show Rep w (C.free w own) (.int .u8) (qm7 b) ((List.drop (i*1) _).take 1);rw[qhy this,qgP];refine⟨rfl,?_⟩;have:=b.toNat_lt;simp[IntKind.has,IntKind.min,IntKind.max,IntKind.signed,IntKind.bits];omega
theorem qvE {k:IntKind}{x y:Int}(hx:k.has x) (hy:k.has y):k.has (maxI x y):=by rw[qq3];split<;>assumption
theorem qwj {k:IntKind}{x y:Int}(hx:k.has x) (hy:k.has y):k.has (minI x y):=by rw[qln];split<;>assumption
theorem qgW {n:Nat}(h:n≤maxLen):IntKind.i64.has (n:Int):=by
 simp only[maxLen]at h;simp[IntKind.has,IntKind.min,IntKind.max,IntKind.signed,IntKind.bits];omega
theorem qac.drewn {tm:Array Value}(h:qac C σ tm w own):qac C σ tm w.drew own:=
 h.world ⟨rfl,rfl,rfl,zay _,fun _ _ _=>rfl⟩
theorem qrX (hE:qa2 E C.P) (h:qac C σ a.tmps w own) {t t':Nat}{x y:Op1}{v u:Value}(hx:qbB (sit C σ a.tmps w own) x v) (hy:qbB (sit C σ a.tmps w own) y u) {f:Eff}
  (he:(qqa E o t t' x y).run (qt σ)=some f) (hd:∀u∈f.upd,u.s<σ.length) (hc:qcT f.chk)
  (hr:∃ty,(execOp a.eval o).run C.P w=((Builtin.append_ #[t,t'] ty #[v,u]).run C.P w).andThen fun v w=>.ok (.value v) w):qcW C o a w (qk σ f.upd):=by
 obtain⟨ty,hr⟩:=hr;unfold qqa at he;split at he;case h_2=>cases he
 rename_i et e hxa;obtain⟨n,h1,he⟩:=Q.yb he;split at he;case isFalse=>cases he
 rename_i hcond;obtain⟨hty,het,hmk,hsz,hby,hint⟩:=hcond;have:=Q.yc he;subst this;obtain⟨e1,g1⟩:=qem h hy h1;have hv:v=.slice none 0 0:=by
  have:=hx.unowned (by rw[hxa];rfl);rw[hxa]at this;exact this.2
 obtain⟨kn,htn⟩:∃k,C.P.underlying t'=some (.int k):=by
  unfold qp3 at hint;split at hint
  ·rename_i k hk;exact⟨k,hE.int t' k hk⟩
  ·cases hint
 obtain⟨i,z,k1,k2,k3,k4,k5,k6,k7⟩:=hE.elem' hty;have c1:0<n.2:=by have:=hc (ltI 0 n.2) (by simp);simpa[qbz]using this
 have c2:n.2*(E.bytes et:Int)≤140737488355328:=by
  have:=hc (room n.2 (E.bytes et)) (by simp);simp[qqZ]at this;exact this.2
 have c3:n.2≤140737488355328:=by
  have h1:(1:Int)≤(E.bytes et:Int):=by omega
  have h2:n.2*1≤n.2*(E.bytes et:Int):=Int.mul_le_mul_of_nonneg_left h1 (by omega);omega
 obtain⟨m,hm⟩:∃m:Nat,n.2=(m:Int):=⟨n.2.toNat,by omega⟩;rw[hm]at c1 c2 c3 e1;have c2':m*i.bytes≤281474976710656:=by
  rw[k6,←het];have:((m*E.bytes et:Nat):Int)≤140737488355328:=by rw[Int.natCast_mul];exact c2
  omega
 have hrun:=Lib.run_append_nil_zeros (P:=C.P) w t t' ty (E.etid t) i z n.1 kn k1 htn k2 k4 m (by omega) (by omega) (by omega) c2';have hx2:(execOp a.eval o).run C.P w=.ok (.value (.slice (some ⟨w.heap.size,0,none⟩) m (grownCap w m 0 (E.etid t)))) (w.drew.alloc (.cells (Builtin.zeroCells z.cells m++Builtin.zeroCells z.cells (grownCap w m 0 (E.etid t)-m)) (E.etid t))):=by
  rw[hr,hv,e1,hrun];rfl
 generalize hcap:grownCap w m 0 (E.etid t)=cap at hx2;have hge:m≤cap:=by rw[←hcap];exact grownCap_ge w m 0 (E.etid t)
 have hle:cap≤maxLen:=by rw[←hcap];exact grownCap_le_maxLen w m 0 (E.etid t) (by simp only[maxLen];omega)
 generalize hcur:(Builtin.zeroCells z.cells m++Builtin.zeroCells z.cells (cap-m))=cur at hx2;have hcs:cur.size=cap*e.size:=by
  rw[←hcur,Array.size_append,size_zeroCells,size_zeroCells,k5,←zbc];congr 1;omega
 have hlr:quH n.2 e.dflt=List.replicate m e.dflt:=by rw[qjR,hm];simp
 rw[hlr,het];simp only[hlr,het]at hd;have hD:=h.drewn;refine qz hx2 (hD.dst (bs:=[w.heap.size]) (w':=w.drew.alloc (.cells cur (E.etid t))) (qbc.alloc _ _ _) hd (fun b hb=>?_) (by simp) ?_ (fun m hm=>by cases hm))
 ·simp at hb;subst hb;exact⟨zay _,by show w.heap.size<(w.heap.push _).size;simp⟩
 ·refine qar.to (by rw[←het];exact hmk) ⟨cur.toList.take (m*e.size),⟨?_,.inr ⟨w.heap.size,cap,cur,by simp,za6 _,heap_alloc_new w.drew _,by simpa using hge,hle,hcs,by simp⟩⟩,rfl,fun i x hi=>?_⟩
  ·rw[zaf,zaI,hcs,List.length_replicate];exact Nat.min_eq_left (zaq _ hge)
  ·have hlt:i<m:=by
    have:=(zao.1 hi).1;simpa using this
   have hu:x=e.dflt:=List.eq_of_mem_replicate (zaU hi);have hle2:i*e.size+e.size≤m*e.size:=by
    have:=zaq e.size (show i+1≤m by omega);rw[zbc,Nat.one_mul]at this;exact this
   rw[hu,List.drop_take,List.take_take,Nat.min_eq_left (by omega),←hcur,←k5,qm6 _ _ _ _ hlt];exact k7 _ _
theorem qgb {P:Program}(w:World) (t ty e:TypeId) (z:Value) (ht:P.underlying t=some (.slice e)) (hv:∀w,(zeroValue e).run P w=.ok z w) (g o n c:Nat) (cur:List Value) (t':TypeId)
  (hg:w.heap[g]? =some (.cells cur.toArray t' (0,0))) (hn:0<n) (hfit:o+n*z.cells.size≤cur.length) (h1:∀v∈(Builtin.zeroCells z.cells n).toList,v.oneCell'=true):
  (Builtin.clear_ #[t] ty #[.slice (some ⟨g,o,none⟩) n c]).run P w=.ok (.tuple #[]) (w.setRow g (cur.take o++(Builtin.zeroCells z.cells n).toList++cur.drop (o+n*z.cells.size)).toArray):=by
 have hzl:(Builtin.zeroCells z.cells n).toList.length=n*z.cells.size:=by simp[Builtin.zeroCells]
 have hst:=run_storeCells_at P g o t' (Builtin.zeroCells z.cells n).toList 0 cur.toArray w hg (by rw[hzl];simpa using hfit) h1;simp only[zbf,hzl]at hst;obtain⟨m,rfl⟩:∃m,n=m+1:=⟨n-1,by omega⟩;simp[Builtin.clear_,run_underlying ht,hv,hst]
theorem qar.clr {P:Program}{F:Nat→Prop}{t ty te:Nat}{z:Value}{et:Nat}{e:Ty}{xs:List e.den}{ad:Option Addr}{n cap:Nat}{bs:List Nat}{lo hi:Int}(ht:P.underlying t=some (.slice te)) (hv:∀w,(zeroValue te).run P w=.ok z w) (hz:z.cells.size=e.size) (hzr:∀w F,Rep w F e e.dflt z.cells.toList) (hsz:e.size≠0)
  (hrow:qar w F et e xs (.slice ad n cap) bs) (hF0:∀x,F x→x∉bs) (c1:0≤lo) (c2:lo≤hi) (c3:hi≤(n:Int)):
  ∃W,(Builtin.clear_ #[t] ty #[sliced ad lo.toNat hi.toNat cap e.size]).run P w=.ok (.tuple #[]) W∧qbc (fun k=>k∈bs) w W∧qar W F et e (qeT (qbq xs 0 lo) (qeT (quH (qR .i64 hi lo) e.dflt) (qbq xs hi (qs xs)))) (.slice ad n cap) bs:=by
 obtain⟨cells,r1,r2,r3⟩:=hrow;have hrow':qar w F et e xs (.slice ad n cap) bs:=⟨cells,r1,r2,r3⟩;obtain⟨r4,r5⟩:=r1;obtain⟨ad',cap',f1,f2⟩:=hrow'.form;injection f1 with f1 f3 f4;subst f1;subst f3;subst f4;have hcm:xs.length≤9223372036854775807:=by
  rcases r5 with⟨h1,h2⟩|⟨g,cap,cur,h1,_,_,h2,h3,_⟩
  ·omega
  ·simp only[maxLen]at h3;omega
 have hsub:qR .i64 hi lo=hi-lo:=by
  rw[qiq,IntKind.wrap_i64];omega
 have hys:qeT (qbq xs 0 lo) (qeT (quH (qR .i64 hi lo) e.dflt) (qbq xs hi (qs xs)))=xs.take lo.toNat++(List.replicate (hi.toNat-lo.toNat) e.dflt++xs.drop hi.toNat):=by
  rw[hsub];simp only[qbi,qd3,qjR,qp];rw[show(hi-lo).toNat=hi.toNat-lo.toNat by omega];simp
 rw[hys];by_cases heq:lo=hi
 ·subst heq;refine⟨w,?_,qbc.refl _ _,?_⟩
  ·have hs0:∃q c,sliced ad lo.toNat lo.toNat cap e.size=.slice q 0 c:=⟨_,_,by simp only[sliced,Nat.sub_self];rfl⟩;obtain⟨q,c,hs0⟩:=hs0;rw[hs0];cases q<;>simp[Builtin.clear_,run_underlying ht]
  ·simpa using hrow'
 rcases r5 with⟨h1,h2⟩|⟨g,cap,cur,h1,_,hg,hnc,hcap,hcs,htk⟩
 ·omega
 injection h1 with h1 _ h2;subst h1;subst h2;have hlo:lo.toNat<xs.length:=by omega
 have hsl:sliced (some ⟨g,0,none⟩) lo.toNat hi.toNat cap e.size=.slice (some ⟨g,lo.toNat*e.size,none⟩) (hi.toNat-lo.toNat) (cap-lo.toNat):=by
  simp only[sliced];rw[if_neg (by omega)];simp only[Option.map_some,qL,zaM]
 have hZl:(Builtin.zeroCells z.cells (hi.toNat-lo.toNat)).toList.length=(hi.toNat-lo.toNat)*e.size:=by simp[Builtin.zeroCells,hz]
 have hcl:cells.length=xs.length*e.size:=r4;have hcz:cur.toList.length=cap*e.size:=by rw[zaI];exact hcs
 have hnc':xs.length*e.size≤cap*e.size:=zaq _ hnc;have hmul:lo.toNat*e.size+(hi.toNat-lo.toNat)*e.size=hi.toNat*e.size:=by rw[←zbc];congr 1;omega
 have hhi:hi.toNat*e.size≤xs.length*e.size:=zaq _ (by omega);have hZone:∀v∈(Builtin.zeroCells z.cells (hi.toNat-lo.toNat)).toList,v.oneCell'=true:=fun v hvm=>by
  obtain⟨i,hi',rfl⟩:=zaw hvm;rw[hZl]at hi';have h1:=qf1 z.cells ((hi.toNat-lo.toNat)*z.cells.size) i (by rw[hz];exact hi') (by rw[hz];omega);have h2:(Builtin.zeroCells z.cells (hi.toNat-lo.toNat)).toList[i]? =z.cells.toList[i%z.cells.size]? :=h1;rw[zaa (by rw[hZl];exact hi')]at h2;exact(hzr w F).oneCell _ (zaU h2.symm)
 have hrun:=qgb (P:=P) w t ty te z ht hv g (lo.toNat*e.size) (hi.toNat-lo.toNat) (cap-lo.toNat) cur.toList et hg (by omega) (by rw[hz,hcz];omega) hZone;rw[hsl];refine⟨_,hrun,?_⟩;rw[hz];have hsp:(cur.toList.take (lo.toNat*e.size)++(Builtin.zeroCells z.cells (hi.toNat-lo.toNat)).toList++cur.toList.drop (lo.toNat*e.size+(hi.toNat-lo.toNat)*e.size)).toArray=(qaM cur.toList (lo.toNat*e.size) (Builtin.zeroCells z.cells (hi.toNat-lo.toNat)).toList).toArray:=by rw[qaM,hZl]
 rw[hsp];generalize hZ:(Builtin.zeroCells z.cells (hi.toNat-lo.toNat)).toList=Z at *
 generalize hW:w.setRow g (qaM cur.toList (lo.toNat*e.size) Z).toArray=W;have hbs:bs=[g]:=by rw[r2];rfl
 have hkept:qbc (fun k=>k=g) w W:=by rw[←hW];exact qfA _ hg
 have hheap:W.heap[g]? =some (.cells (qaM cur.toList (lo.toNat*e.size) Z).toArray et (0,0)):=by rw[←hW];exact setRow_heap w g _ _ et _ hg
 have hF:∀x,F x→x<w.heap.size→F x∧x<W.heap.size∧W.heap[x]? =w.heap[x]? :=fun x hx hlt=>⟨hx,zaE hlt hkept.size,hkept.block x hlt fun e=>hF0 x hx (by rw[hbs,e];exact zat.2 rfl)⟩;have hspl:(qaM cur.toList (lo.toNat*e.size) Z).length=cur.toList.length:=qei (by rw[hZl,hcz];omega);have hyl:(xs.take lo.toNat++(List.replicate (hi.toNat-lo.toNat) e.dflt++xs.drop hi.toNat)).length=xs.length:=by simp;omega
 refine⟨hkept.mono fun k hk=>by rw[hbs,hk];exact zat.2 rfl,?_⟩;refine⟨(qaM cur.toList (lo.toNat*e.size) Z).take (xs.length*e.size),⟨?_,.inr ⟨g,cap,_,by rw[hyl],za6 _,hheap,by rw[hyl];exact hnc,hcap,by rw[List.size_toArray,hspl,hcz],by rw[hyl]⟩⟩,r2,?_⟩
 ·rw[zaf,hspl,hyl,hcz];omega
 intro j x hj;have hjl:j<xs.length:=by
  have:=(zao.1 hj).1;rw[hyl]at this;exact this
 have hjn:j*e.size+e.size≤xs.length*e.size:=by rw[←Nat.succ_mul];exact zaq _ hjl
 rw[qdI hjl];by_cases hz1:lo.toNat≤j∧j<hi.toNat
 ·have hx:x=e.dflt:=by
   rw[zaL (by rw[zaf];omega),zaP (by rw[zaf,List.length_replicate];omega)]at hj;exact List.eq_of_mem_replicate (zaU hj)
  have hc:((qaM cur.toList (lo.toNat*e.size) Z).drop (j*e.size)).take e.size=z.cells.toList:=by
   have h0:=qgg z.cells (hi.toNat-lo.toNat) (j-lo.toNat) (by omega);have h0':(Z.drop ((j-lo.toNat)*e.size)).take e.size=z.cells.toList:=by
    rw[←hZ,←hz];exact h0
   rw[←h0'];have hjlo:lo.toNat*e.size+(j-lo.toNat)*e.size=j*e.size:=by rw[←zbc];congr 1;omega
   have hjhi:j*e.size+e.size≤hi.toNat*e.size:=by rw[←Nat.succ_mul];exact zaq _ hz1.2
   apply List.ext_getElem?;intro k;rw[zal,zal];split
   ·rename_i hk;rw[zan,zan,qcj (by rw[hZl,hcz];omega),if_neg (by omega),if_pos (by rw[hZl];omega)];congr 1;omega
   ·rfl
  rw[hx,hc];exact hzr W F
 ·have hx0:xs[j]? =some x:=by
   by_cases hjlo:j<lo.toNat
   ·rw[zaP (by rw[zaf];omega),zal,if_pos hjlo]at hj;exact hj
   ·rw[zaL (by rw[zaf];omega),zaL (by rw[zaf,List.length_replicate];omega),zan]at hj;rw[←hj];congr 1;simp only[zaf,List.length_replicate];omega
  have hc:((qaM cur.toList (lo.toNat*e.size) Z).drop (j*e.size)).take e.size=(cells.drop (j*e.size)).take e.size:=by
   rw[←htk,qdI hjl];apply List.ext_getElem?;intro k;rw[zal,zal];split
   ·rename_i hk;rw[zan,zan,qcj (by rw[hZl,hcz];omega)];by_cases hjlo:j<lo.toNat
    ·have:j*e.size+e.size≤lo.toNat*e.size:=by rw[←Nat.succ_mul];exact zaq _ hjlo
     rw[if_pos (by omega)]
    ·have:hi.toNat*e.size≤j*e.size:=zaq _ (by omega);rw[if_neg (by omega),if_neg (by rw[hZl];omega)]
   ·rfl
  rw[hc];exact(r3 j x hx0).keep hF
theorem qb5 {P:Program}(w:World) (dT sT ty elem:TypeId) (sz:Nat) (g o dLen dCap:Nat) (a:Addr) (sLen sCap:Nat) (cur:List Value) (t:TypeId) (cs:List Value)
  (hu:P.underlying dT=some (.slice elem)) (hs:(P.info? elem).map (·.size)=some sz)
  (hg:w.heap[g]? =some (.cells cur.toArray t (0,0))) (hn:cs.length=Nat.min sLen dLen*sz)
  (hsrc:∀j v,cs[j]? =some v→w.cell? (a.add j)=some v) (hfit:o+cs.length≤cur.length) (h1:∀v∈cs,v.oneCell'=true):
  (Builtin.copy_ #[dT,sT] ty #[.slice (some ⟨g,o,none⟩) dLen dCap,.slice (some a) sLen sCap]).run P w=
   .ok (goInt (Nat.min sLen dLen)) (w.setRow g (cur.take o++cs++cur.drop (o+cs.length)).toArray):=by
 have hl:=run_loadCells_list (P:=P) w a cs hsrc;have hst:=run_storeCells_at P g o t cs 0 cur.toArray w hg (by simpa using hfit) h1;simp only[zbf]at hst;cases hq:P.info? elem with
 |none=>simp[hq]at hs
 |some i=>
  have hi:i.size=sz:=by simpa[hq]using hs
  simp[Builtin.copy_,run_underlying hu,Builtin.lenOf,Builtin.firstCells,sizeOf,typeInfo,hq,hi,←hn,hl,hst]
theorem qar.spl {F:Nat→Prop}{et:Nat}{e:Ty}{xs ys:List e.den}{ad:Option Addr}{n cap:Nat}{bs:List Nat}{lo:Nat}{Z:List Value}(hsz:e.size≠0)
  (hrow:qar w F et e xs (.slice ad n cap) bs) (hF0:∀x,F x→x∉bs) (hlo:lo+ys.length≤n) (hpos:0<ys.length) (hZl:Z.length=ys.length*e.size) (hZr:∀(k:Nat) (u:e.den),ys[k]? =some u→Rep w F e u ((Z.drop (k*e.size)).take e.size)):
  ∃(g:Nat) (cur:Array Value),ad=some ⟨g,0,none⟩∧w.heap[g]? =some (.cells cur.toList.toArray et (0,0))∧lo*e.size+Z.length≤cur.toList.length∧(∀W,W=w.setRow g (cur.toList.take (lo*e.size)++Z++cur.toList.drop (lo*e.size+Z.length)).toArray→
   qbc (fun k=>k∈bs) w W∧qar W F et e (xs.take lo++(ys++xs.drop (lo+ys.length))) (.slice ad n cap) bs):=by
 obtain⟨cells,r1,r2,r3⟩:=hrow;have hrow':qar w F et e xs (.slice ad n cap) bs:=⟨cells,r1,r2,r3⟩;obtain⟨r4,r5⟩:=r1;obtain⟨ad',cap',f1,f2⟩:=hrow'.form;injection f1 with f1 f3 f4;subst f1;subst f3;subst f4;rcases r5 with⟨h1,h2⟩|⟨g,cap,cur,h1,_,hg,hnc,hcap,hcs,htk⟩
 ·omega
 injection h1 with h1 _ h2;subst h1;subst h2;have hcl:cells.length=xs.length*e.size:=r4;have hcz:cur.toList.length=cap*e.size:=by rw[zaI];exact hcs
 have hnc':xs.length*e.size≤cap*e.size:=zaq _ hnc;have hmul:lo*e.size+ys.length*e.size=(lo+ys.length)*e.size:=by rw[←zbc]
 have hhi:(lo+ys.length)*e.size≤xs.length*e.size:=zaq _ (by omega);refine⟨g,cur,rfl,by simpa using hg,by omega,fun W hW=>?_⟩;have hsp:(cur.toList.take (lo*e.size)++Z++cur.toList.drop (lo*e.size+Z.length)).toArray=(qaM cur.toList (lo*e.size) Z).toArray:=by rw[qaM]
 rw[hsp]at hW;have hbs:bs=[g]:=by rw[r2];rfl
 have hkept:qbc (fun k=>k=g) w W:=by rw[hW];exact qfA _ hg
 have hheap:W.heap[g]? =some (.cells (qaM cur.toList (lo*e.size) Z).toArray et (0,0)):=by rw[hW];exact setRow_heap w g _ _ et _ hg
 have hF:∀x,F x→x<w.heap.size→F x∧x<W.heap.size∧W.heap[x]? =w.heap[x]? :=fun x hx hlt=>⟨hx,zaE hlt hkept.size,hkept.block x hlt fun e=>hF0 x hx (by rw[hbs,e];exact zat.2 rfl)⟩;have hspl:(qaM cur.toList (lo*e.size) Z).length=cur.toList.length:=qei (by rw[hZl,hcz];omega);have hyl:(xs.take lo++(ys++xs.drop (lo+ys.length))).length=xs.length:=by simp;omega
 refine⟨hkept.mono fun k hk=>by rw[hbs,hk];exact zat.2 rfl,?_⟩;refine⟨(qaM cur.toList (lo*e.size) Z).take (xs.length*e.size),⟨?_,.inr ⟨g,cap,_,by rw[hyl],za6 _,hheap,by rw[hyl];exact hnc,hcap,by rw[List.size_toArray,hspl,hcz],by rw[hyl]⟩⟩,r2,?_⟩
 ·rw[zaf,hspl,hyl,hcz];omega
 intro j x hj;have hjl:j<xs.length:=by
  have:=(zao.1 hj).1;rw[hyl]at this;exact this
 have hjn:j*e.size+e.size≤xs.length*e.size:=by rw[←Nat.succ_mul];exact zaq _ hjl
 rw[qdI hjl];by_cases hz1:lo≤j∧j<lo+ys.length
 ·have hx:ys[j-lo]? =some x:=by
   rw[zaL (by rw[zaf];omega),zaP (by rw[zaf];omega),zaf,show min lo xs.length=lo by omega]at hj;exact hj
  have hc:((qaM cur.toList (lo*e.size) Z).drop (j*e.size)).take e.size=(Z.drop ((j-lo)*e.size)).take e.size:=by
   have hjlo:lo*e.size+(j-lo)*e.size=j*e.size:=by rw[←zbc];congr 1;omega
   have hjhi:j*e.size+e.size≤(lo+ys.length)*e.size:=by rw[←Nat.succ_mul];exact zaq _ hz1.2
   apply List.ext_getElem?;intro k;rw[zal,zal];split
   ·rename_i hk;rw[zan,zan,qcj (by rw[hZl,hcz];omega),if_neg (by omega),if_pos (by rw[hZl];omega)];congr 1;omega
   ·rfl
  rw[hc];exact(hZr _ _ hx).keep hF
 ·have hx0:xs[j]? =some x:=by
   by_cases hjlo:j<lo
   ·rw[zaP (by rw[zaf];omega),zal,if_pos hjlo]at hj;exact hj
   ·rw[zaL (by rw[zaf];omega),zaL (by rw[zaf];omega),zan]at hj;rw[←hj];congr 1;simp only[zaf];omega
  have hc:((qaM cur.toList (lo*e.size) Z).drop (j*e.size)).take e.size=(cells.drop (j*e.size)).take e.size:=by
   rw[←htk,qdI hjl];apply List.ext_getElem?;intro k;rw[zal,zal];split
   ·rename_i hk;rw[zan,zan,qcj (by rw[hZl,hcz];omega)];by_cases hjlo:j<lo
    ·have:j*e.size+e.size≤lo*e.size:=by rw[←Nat.succ_mul];exact zaq _ hjlo
     rw[if_pos (by omega)]
    ·have:(lo+ys.length)*e.size≤j*e.size:=zaq _ (by omega);rw[if_neg (by omega),if_neg (by rw[hZl];omega)]
   ·rfl
  rw[hc];exact(r3 j x hx0).keep hF
theorem qu1 (hE:qa2 E C.P) (h:qac C σ a.tmps w own) {t:Nat}{x1 y1:Op1}{x y:Value}(hx:qbB (sit C σ a.tmps w own) x1 x) (hy:qbB (sit C σ a.tmps w own) y1 y) {f:Eff}
  (he:(qwd E o t x1 y1).run (qt σ)=some f) (hd:∀u∈f.upd,u.s<σ.length) (hc:qcT f.chk)
  (hr:∃ty t',(execOp a.eval o).run C.P w=((Builtin.copy_ #[t,t'] ty #[x,y]).run C.P w).andThen fun v w=>.ok (.value v) w):qcW C o a w (qk σ f.upd):=by
 obtain⟨ty,t',hr⟩:=hr;unfold qwd at he;split at he;case h_2=>cases he
 rename_i s v0 fo sz lo hi hxa;obtain⟨q,hq,he2⟩:=Q.yb he;clear he;have he:=he2;clear he2;rw[Q.yd]at he;split at he;case isFalse=>cases he
 rename_i hver;split at he;case h_2=>cases he
 rename_i et e xs hown;split at he;case isFalse=>cases he
 rename_i hcond;obtain⟨hsz,hsz0,hty,hmk⟩:=hcond;subst hsz;split at he;case h_2=>cases he
 rename_i ys hys;split at he;case h_2=>cases he
 rename_i a' hsw;have:=Q.yc he;subst this;have hrow:=qqC h hy hq;obtain⟨⟨e',zs⟩,qo⟩:=q;simp only at hys hrow;have hee:e'=e:=by
  obtain⟨e1,_⟩:=Ty.ye hys;injection e1
 subst hee;have hzs:zs=ys:=by
  obtain⟨e1,e2⟩:=Ty.ye hys;exact e2
 subst hzs;have hop:=hx.unowned (by rw[hxa];rfl);rw[hxa]at hop;obtain⟨ad,n,cap,k1,c1,c2,c3,k2⟩:=hop.2 hver;obtain⟨hsl,b1,b2,b3,q1,q2,q3,q4⟩:=h.rowAt hown k1;obtain⟨i,z,m1,m2,m3,m4,m5,m6,m7⟩:=hE.elem' hty;have hn:n=xs.length:=by
  obtain⟨ad',cap',f1,_⟩:=(q1.to0 hmk).form;injection f1
 have hxm:xs.length≤9223372036854775807:=by
  obtain⟨_,⟨_,r5⟩,_⟩:=q1.to0 hmk;rcases r5 with⟨h1,h2⟩|⟨g,cap,cur,h1,_,_,h2,h3,_⟩
  ·omega
  ·simp only[maxLen]at h3;omega
 have hlen:(zs.length:Int)≤hi-lo:=by
  have:=hc _ (zat.2 rfl);rw[qbQ,qp,qiq,IntKind.wrap_i64]at this;have:=of_decide_eq_true this;omega
 have hnew:qeT (qbq xs 0 lo) (qeT zs (qbq xs (qQ .i64 lo (qs zs)) (qs xs)))=xs.take lo.toNat++(zs++xs.drop (lo.toNat+zs.length)):=by
  rw[qjJ,qp,qp,IntKind.wrap_i64];simp only[qbi,qd3];have e1:((lo+(zs.length:Int)+9223372036854775808)%18446744073709551616-9223372036854775808).toNat=lo.toNat+zs.length:=by omega
  simp[e1]
 rw[hnew]at hsw;have key:∃W,(execOp a.eval o).run C.P w=.ok (.value (.int .i64 (qs zs))) W∧qbc (fun k=>k∈b2) w W∧qar W (C.free w own) et e' (xs.take lo.toNat++(zs++xs.drop (lo.toNat+zs.length))) (.slice ad n cap) b2:=by
  by_cases hz0:zs=[]
  ·subst hz0;refine⟨w,?_,qbc.refl _ _,by simpa using q1.to0 hmk⟩;have hsl0:∃q m c,x=.slice q m c:=⟨_,_,_,by rw[k2,sliced]⟩;obtain⟨q,m,c,hx0⟩:=hsl0;rw[hr,hx0];rcases hrow with⟨rfl,_⟩|⟨ad2,cap2,news,rfl,n1,n2,n3⟩
   ·cases q<;>simp[Builtin.copy_,run_underlying m1,Builtin.lenOf,Builtin.firstCells,sizeOf,typeInfo,m2,storeCells,goInt,qp]
   ·have hl:(loadCells ad2 0).run C.P w=.ok #[] w:=run_loadCells_list (P:=C.P) w ad2 [] (fun j v hj=>by cases hj);have hm0:Nat.min 0 m=0:=Nat.zero_min m;cases q<;>simp[Builtin.copy_,run_underlying m1,Builtin.lenOf,Builtin.firstCells,sizeOf,typeInfo,m2,storeCells,goInt,qp,hl,hm0]
  ·have hpos:0<zs.length:=by
    cases zs with
    |nil=>exact absurd rfl hz0
    |cons z r=>simp
   rcases hrow with⟨_,hz⟩|⟨ad2,cap2,news,rfl,n1,n2,n3⟩
   ·exact absurd hz hz0
   have hnl:news.length=zs.length*e'.size:=n1;have hone:∀u∈news,u.oneCell'=true:=fun u hu=>by
    obtain⟨j,hj,rfl⟩:=zaw hu;have hp:0<e'.size:=by omega
    have hjlt:j/e'.size<zs.length:=(Nat.div_lt_iff_lt_mul hp).2 (by rw[←hnl];exact hj);have hrep:=n3 _ _ (zaa hjlt);have hm:=Nat.mod_lt j hp;have hdm:j/e'.size*e'.size+j%e'.size=j:=by rw[Nat.mul_comm];exact Nat.div_add_mod j _
    refine hrep.oneCell _ (zaU (i:=j%e'.size) ?_);rw[zal,if_pos hm,zan,hdm];exact zaa hj
   obtain⟨g,cur,g1,g2,g3,g4⟩:=qar.spl (lo:=lo.toNat) (ys:=zs) (Z:=news) hsz0 (q1.to0 hmk) (fun x hx hm=>hx.2.2 s (by rw[q2];exact zab _ (zac _ hm))) (by omega) hpos hnl n3;obtain⟨g5,g6⟩:=g4 _ rfl;refine⟨_,?_,g5,g6⟩;have hslx:x=.slice (some ⟨g,lo.toNat*e'.size,none⟩) (hi.toNat-lo.toNat) (cap-lo.toNat):=by
    rw[k2,g1];simp only[sliced];rw[if_neg (by
     have:n≤cap:=by
      obtain⟨_,⟨_,r5⟩,_⟩:=q1.to0 hmk;rcases r5 with⟨h1,h2⟩|⟨g',cap',cur',h1,_,_,h2,_⟩
      ·omega
      ·injection h1 with _ h4 h5;omega
     omega)]
    simp only[Option.map_some,qL,zaM]
   have hmin:Nat.min zs.length (hi.toNat-lo.toNat)=zs.length:=Nat.min_eq_left (by omega);have hrun:=qb5 (P:=C.P) w t t' ty (E.etid t) e'.size g (lo.toNat*e'.size) (hi.toNat-lo.toNat) (cap-lo.toNat) ad2 zs.length cap2 cur.toList et news m1 (by rw[m2];exact congrArg some m3) g2 (by rw[hmin];exact hnl) n2 g3 hone;rw[hr,hslx,hrun,hmin];simp[goInt,qp]
 obtain⟨W,hrun,hkept,hrow'⟩:=key;obtain⟨g1,g2⟩:=q4 W (.own et e' (xs.take lo.toNat++(zs++xs.drop (lo.toNat+zs.length)))) b2 a' hkept ⟨_,rfl,hrow'.to hmk⟩ hsw;have hst:=h.mutK hsl q2 q3 hkept (by rw[q2];exact g1) g2;refine qz hrun ?_;have hlz:zs.length≤maxLen:=by simp only[maxLen];omega
 have:=hst.dst0 (o:=o) (a:=a) (av:= .val (.int .i64) (qs zs)) (v:= .int .i64 (qs zs)) (fun u hu=>by rw[qO];exact hd u (zae _ hu)) ⟨rfl,qau.ofInt _ _ (by rw[qp];exact qgW hlz)⟩ (fun m hm=>by cases hm);rw[show(⟨s,false,a'⟩::qbp o (.val (.int .i64) (qs zs)))=[⟨s,false,a'⟩]++qbp o (.val (.int .i64) (qs zs))from rfl,qbC];exact this
theorem qpZ (hE:qa2 E C.P) (h:qac C σ a.tmps w own) {b:Builtin}{ts:List Nat}{os:List Op1}{vs:List Value}(ho:qk1 (sit C σ a.tmps w own) os vs) (hos:∀o1∈os,∀s,o1.s=some s→o1.a≠ .undef→s<σ.length)
  {f:Eff}(he:(qnX E o b ts os).run (qt σ)=some f) (hd:∀u∈f.upd,u.s<σ.length) (hc:qcT f.chk)
  (hr:∃ty cs,(execOp a.eval o).run C.P w=(builtin b ts.toArray ty cs vs.toArray).run C.P w):qcW C o a w (qk σ f.upd):=by
 obtain⟨ty,cs,hr⟩:=hr;unfold qnX at he;split at he
 ·rename_i x;match vs,ho with
  |[v],ho=>
   obtain⟨r,h1,he⟩:=Q.yb he;have rx:=qd2 h ho.1 h1;split at he
   ·rename_i e xs _ t _ _;split at he;case isFalse=>cases he
    rename_i hty;have:=qI he;subst this;have hu:=(hE.elem t e hty).under;rcases qau.slice rx with⟨e1,e2⟩|⟨ad,cap,e1,e2,e3,_⟩
    ·have e2:xs=[]:=e2;subst e2;refine qaZ h (v:= .int .i64 0) ?_ hd (by rw[qp];exact qau.ofInt _ _ (qgW (n:=0) (by simp)));rw[hr,e1];simp[builtin,Builtin.len_,run_underlying hu,goInt]
    ·refine qaZ h (v:= .int .i64 (qs xs)) ?_ hd (qau.ofInt _ _ (by rw[qp];exact qgW (n:=xs.length) (Nat.le_trans e2 e3)));rw[hr,e1];simp[builtin,Builtin.len_,run_underlying hu,goInt,qp]
   ·rename_i xs _ t _ _;split at he;case isFalse=>cases he
    rename_i hty;have:=qI he;subst this;have hu:=hE.str t hty;obtain⟨e1,e2⟩:=qau.str rx;have e2:xs.length≤maxLen:=e2;refine qaZ h (v:= .int .i64 (qs xs)) ?_ hd (qau.ofInt _ _ (by rw[qp];exact qgW (n:=xs.length) e2));rw[hr,e1];simp[builtin,Builtin.len_,run_underlying hu,goInt,qp,ByteArray.size_mk']
   ·rename_i k vt xs _ t _ _;split at he;case isFalse=>cases he
    rename_i hty;have:=Q.yc he;subst this;have hck:xs.length≤1099511627776:=by
     have:=hc _ (zat.2 rfl);rw[qbQ,qp]at this;have h9:((List.length xs:Nat):Int)≤1099511627776:=by simpa using this
     omega
    obtain⟨kn,vn,d,i,z,e1,_⟩:=hE.map t k vt hty;obtain⟨⟨u,hu,hat⟩,_,hna⟩:=rx;have hu:v=u:=by
     have:=hna rfl;cases hv:v with
     |agg cs=>exact absurd hv (this cs)
     |_=>rw[hv]at hu;simpa[Value.cells]using hu
    refine qaZ h (v:= .int .i64 (qs xs)) ?_ hd (qau.ofInt _ _ (by rw[qp];exact qgW (n:=xs.length) (by simp only[maxLen];omega)));rw[hr,hu];rcases hat with⟨rfl,rfl⟩|⟨b,rfl,_,_,ys,hyp,es,clock,h1,h2,_⟩
    ·simp[builtin,Builtin.len_,run_underlying e1,goInt,qp]
    ·have h2:es.size=xs.length:=h2.trans hyp.length_eq;simp[builtin,Builtin.len_,run_underlying e1,MapKept.run_getObj_map h1,goInt,qp,h2]
   ·cases he
 ·rename_i x y;match vs,ho with
  |[v,u],ho=>
   split at he
   ·rename_i t t';split at he
    ·rename_i htt;subst htt;split at he
     ·refine qrr hE h ho.1 (hos x (by simp)) ho.2.1 he hd hc ⟨ty,?_⟩;rw[hr];simp only[builtin,Sem.run_bind];rfl
     ·refine qr5 hE h ho.1 (hos x (by simp)) ho.2.1 he hd hc ⟨ty,?_⟩;rw[hr];simp only[builtin,Sem.run_bind];rfl
    ·split at he
     ·refine qrX hE h ho.1 ho.2.1 he hd hc ⟨ty,?_⟩;rw[hr];simp only[builtin,Sem.run_bind];rfl
     ·refine qrJ hE h ho.1 (hos x (by simp)) ho.2.1 he hd hc ⟨ty,?_⟩;rw[hr];simp only[builtin,Sem.run_bind];rfl
   ·cases he
 ·rename_i x;match vs,ho with
  |[v],ho=>
   split at he;case h_2=>cases he
   rename_i et e t ts' hxa;split at he;case isFalse=>cases he
   rename_i hty;have:=qI he;subst this;have hv:v=.slice none 0 0:=by
    have:=ho.1.unowned (by rw[hxa];rfl);rw[hxa]at this;exact this.2
   have hu:=(hE.elem t e hty).under;refine qaZ h (v:= .int .i64 0) ?_ hd (qau.ofInt _ _ (qgW (n:=0) (by simp)));rw[hr,hv];simp[builtin,Builtin.cap_,goInt,run_underlying hu]
 ·rename_i x;match vs,ho with
  |[v],ho=>
   split at he;case h_2=>cases he
   rename_i s v0 fo sz lo hi t ts' hxa;split at he;case isTrue=>cases he
   rename_i hdst;rw[Q.yd]at he;split at he;case isFalse=>cases he
   rename_i hver;split at he;case h_2=>cases he
   rename_i et e xs hown;split at he;case isFalse=>cases he
   rename_i hcond;obtain⟨hsz,hsz0,hty,hmk⟩:=hcond;subst hsz;split at he;case h_2=>cases he
   rename_i a' hsw;have:=qI he;subst this;have hop:=ho.1.unowned (by rw[hxa];rfl);rw[hxa]at hop;obtain⟨ad,n,cap,k1,c1,c2,c3,k2⟩:=hop.2 hver;obtain⟨hsl,b1,b2,b3,q1,q2,q3,q4⟩:=h.rowAt hown k1;obtain⟨i,z,m1,m2,m3,m4,m5,m6,m7⟩:=hE.elem' hty;have hzv:∀w,(zeroValue (E.etid t)).run C.P w=.ok z w:=fun w=>by simp[zeroValue,typeInfo,m2,m4]
   obtain⟨W,hrun,hkept,hrow'⟩:=qar.clr (ty:=ty) m1 hzv m5 m7 hsz0 (q1.to0 hmk) (fun x hx hm=>hx.2.2 s (by rw[q2];exact zab _ (zac _ hm))) c1 c2 c3;obtain⟨g1,g2⟩:=q4 W (.own et e (qeT (qbq xs 0 lo) (qeT (quH (qR .i64 hi lo) e.dflt) (qbq xs hi (qs xs))))) b2 a' hkept ⟨_,rfl,hrow'.to hmk⟩ hsw;have hcl:Builtin.clear_ (t::ts').toArray ty #[sliced ad lo.toNat hi.toNat cap e.size]=Builtin.clear_ #[t] ty #[sliced ad lo.toNat hi.toNat cap e.size]:=by simp[Builtin.clear_]
   have hr2:(execOp a.eval o).run C.P w=.ok (.value (.tuple #[])) W:=by
    rw[hr,k2];simp only[builtin,Sem.run_bind,hcl,hrun];rfl
   refine qz hr2 ⟨own,?_⟩;have hdn:o.dst=none:=by cases ho:o.dst<;>simp[ho]at hdst⊢
   rw[hdn];exact h.mutK hsl q2 q3 hkept (by rw[q2];exact g1) g2
 ·rename_i x1 y1;match vs,ho with
  |[v,u],ho=>
   split at he;case h_2=>cases he
   rename_i t t' ts';refine qu1 hE h ho.1 ho.2.1 he hd hc ⟨ty,t',?_⟩;rw[hr];have hcl:Builtin.copy_ (t::t'::ts').toArray ty #[v,u]=Builtin.copy_ #[t,t'] ty #[v,u]:=by simp[Builtin.copy_]
   simp only[builtin,Sem.run_bind];rw[show Builtin.copy_ (t::t'::ts').toArray ty [v,u].toArray=Builtin.copy_ #[t,t'] ty #[v,u]from hcl];rfl
 ·rename_i m1 k1;match vs,ho with
  |[mv,kv],ho=>
   split at he;case h_2=>cases he
   rename_i t t' ts';refine qtJ hE h ho.1 ho.2.1 (hos m1 (by simp)) he ⟨ty,?_⟩;rw[hr];simp only[builtin,Sem.run_bind];rfl
 ·rename_i x r;match vs,ho with
  |v::vs,ho=>
   obtain⟨m,h1,he⟩:=Q.yb he;obtain⟨n,h2,he⟩:=Q.yb he;have:=qI he;subst this;obtain⟨e1,g1⟩:=qem h ho.1 h1;obtain⟨k1,k2⟩:=qkJ (P:=C.P) h (m2:=Builtin.max2) (fun k x y=>by simp[Builtin.max2,qq3]) (fun k x y=>qvE) r vs m.2 n g1 ho.2 h2;refine qaZ h ?_ hd (qau.ofInt _ _ k2);rw[hr,e1];simp[builtin,Builtin.max_,k1]
 ·rename_i x r;match vs,ho with
  |v::vs,ho=>
   obtain⟨m,h1,he⟩:=Q.yb he;obtain⟨n,h2,he⟩:=Q.yb he;have:=qI he;subst this;obtain⟨e1,g1⟩:=qem h ho.1 h1;obtain⟨k1,k2⟩:=qkJ (P:=C.P) h (m2:=Builtin.min2) (fun k x y=>by simp[Builtin.min2,qln]) (fun k x y=>qwj) r vs m.2 n g1 ho.2 h2;refine qaZ h ?_ hd (qau.ofInt _ _ k2);rw[hr,e1];simp[builtin,Builtin.min_,k1]
 ·cases he
end
end Go.Vi
namespace Go.Vi
open Go.RowKit
theorem qhk {css:List (List Value)}{i:Nat}{c:List Value}(hi:css[i]? =some c):css.flatten=(css.take i).flatten++c++(css.drop (i+1)).flatten:=by
 obtain⟨hlt,rfl⟩:=zao.1 hi;conv=>lhs;rw[←zaK i css,zaO hlt]
 rw[List.flatten_append,zaX,zaC]
theorem qoQ {css:List (List Value)}{i:Nat}{d:List Value}(hi:i<css.length):(css.set i d).flatten=(css.take i).flatten++d++(css.drop (i+1)).flatten:=by
 have h:=qhk (css:=css.set i d) (i:=i) (c:=d) (by simp[hi]);rw[h];congr 2
 ·rw[List.take_set];rw[List.set_eq_of_length_le (by rw[zaf];exact Nat.min_le_left _ _)]
 ·rw[List.drop_set];simp
def qkB (css:List (List Value)) (i:Nat):Nat:=(css.take i).flatten.length
theorem qpv (cells:Array Value) (pre c post:List Value) (v:List Value) (hc:cells.toList=pre++c++post) (hl:v.length=c.length):
  ((v.zipIdx 0).foldl (fun cs (x:Value×Nat)=>cs.setIfInBounds (pre.length+x.2) x.1) cells).toList=pre++v++post:=by
 obtain⟨h1,h2⟩:=Great.foldl_set pre.length v 0 cells;have hs:cells.size=pre.length+v.length+post.length:=by rw[←zaI,hc];simp;omega
 apply List.ext_getElem?;intro k;rw[Array.getElem?_toList,h2 k];split
 ·rename_i hk;rw[zaC,zaL (by omega),zaP (by omega)];simp
 ·rename_i hk;rw[←Array.getElem?_toList,hc];by_cases h3:k<pre.length
  ·rw[zaC,zaC,zaP h3,zaP h3]
  ·rw[zaL (by simp;omega),zaL (by simp;omega)];simp[hl]
theorem qqI {place:Nat→Option (Nat×Nat)}:∀(parts:List (Nat×Value)) (css:List (List Value)) (cells:Array Value),cells.toList=css.flatten→(∀i c,css[i]? =some c→place i=some (qkB css i,c.length))→
  (∀q∈parts,∃c,css[q.1]? =some c∧q.2.cells.toList.length=c.length)→∃r,Instr.fill place cells parts=some r∧r.toList=(parts.foldl (fun css q=>css.set q.1 q.2.cells.toList) css).flatten
 |[],css,cells,h1,_,_=>⟨cells,rfl,h1⟩
 |(i,v)::rest,css,cells,h1,h2,h3=>by
  obtain⟨c,k1,k2⟩:=h3 (i,v) (by simp);simp only at k1 k2;have hi:i<css.length:=(zao.1 k1).1;have hp:=h2 i c k1;have hsplit:=qhk k1;have hsz:cells.size=qkB css i+c.length+(css.drop (i+1)).flatten.length:=by
   rw[←zaI,h1,hsplit];simp only[zag,qkB]
  rw[zaI]at k2;have hset:=qoQ (d:=v.cells.toList) hi;have hoff:∀j,qkB (css.set i v.cells.toList) j=qkB css j:=fun j=>by
   unfold qkB;rw[List.take_set];by_cases hj:i<j
   ·have hj2:i<(css.take j).length:=by simp;omega
    rw[qoQ hj2,qhk (css:=css.take j) (i:=i) (c:=c) (by rw[zal,if_pos hj];exact k1)];simp only[zag,zaI,k2]
   ·rw[List.set_eq_of_length_le (by simp;omega)]
  have step:=qpv cells (css.take i).flatten c (css.drop (i+1)).flatten v.cells.toList (by rw[h1];exact hsplit) (by rw[zaI];exact k2);have hzip:v.cells.zipIdx.foldl (fun cs (x:Value×Nat)=>cs.setIfInBounds (qkB css i+x.2) x.1) cells=(v.cells.toList.zipIdx 0).foldl (fun cs (x:Value×Nat)=>cs.setIfInBounds ((css.take i).flatten.length+x.2) x.1) cells:=by
   rw[←Array.foldl_toList];simp[qkB]
  obtain⟨r,g1,g2⟩:=qqI (place:=place) rest (css.set i v.cells.toList) ((v.cells.toList.zipIdx 0).foldl (fun cs (x:Value×Nat)=>cs.setIfInBounds ((css.take i).flatten.length+x.2) x.1) cells) (by rw[step,hset]) (fun j d hj=>by
   rw[hoff j];by_cases hij:i=j
   ·subst hij;rw[List.getElem?_set_self hi]at hj;injection hj with hj;subst hj;rw[hp,show v.cells.toList.length=v.cells.size from zaI,k2]
   ·rw[List.getElem?_set_ne hij]at hj;exact h2 j d hj) (fun q hq=>by
   obtain⟨d,m1,m2⟩:=h3 q (zae _ hq);by_cases hij:i=q.1
   ·rw[←hij]at m1⊢
    rw[k1]at m1;injection m1 with m1;subst m1;exact⟨_,List.getElem?_set_self hi,by rw[m2,show v.cells.toList.length=v.cells.size from zaI,k2]⟩
   ·exact⟨d,by rw[List.getElem?_set_ne hij];exact m1,m2⟩)
  refine⟨r,?_,g2⟩;simp only[Instr.fill,hp];have e1:(v.cells.size !=c.length)=false:=by simp[k2]
  have e2:¬(qkB css i+v.cells.size > cells.size):=by omega
  have e3:¬(v.cells.size≠c.length||qkB css i+v.cells.size > cells.size)=true:=by simp[k2];omega
  rw[if_neg e3];rw[hzip];exact g1
theorem qk3 {css:List (List Value)}:∀(parts:List (Nat×Value)) {css:List (List Value)},qiS (parts.map (·.1))=true→∀k,(parts.foldl (fun css q=>css.set q.1 q.2.cells.toList) css)[k]? =
  match parts.find? (fun q=>q.1==k)with
  |some q=>if k<css.length then some q.2.cells.toList else none
  |none=>css[k]?
 |[],css,_,k=>rfl
 |(i,v)::rest,css,hn,k=>by
  simp only[zaZ,qiS,zad,za8]at hn;rw[List.foldl_cons,qk3 (css:=css) rest hn.2 k,List.find?_cons];by_cases hik:i=k
  ·subst hik;have:rest.find? (fun q=>q.1==i)=none:=by
    rw[List.find?_eq_none];intro q hq he;have he:q.1=i:=by simpa using he
    have:(rest.map (·.1)).contains i=true:=by simp;exact⟨q.2,by rw[←he];exact hq⟩
    rw[this]at hn;cases hn.1
   rw[this];simp[List.getElem?_set]
  ·have e:(i==k)=false:=by simp[hik]
   rw[e];simp only[List.length_set];cases rest.find? (fun q=>q.1==k)with
   |some q=>rfl
   |none=>simp[hik]
section
variable {C:Ctx}{E:Env}{σ:St}{tm:Array Value}{a:Act}{w w':World}{own:Nat→List Nat}{o:Oper}{p:qg3} [Tabbed E C]
def qfO (X:Sit):List (Nat×Op1)→List (Nat×Value)→Prop
 |[],[]=>True
 |o::os,v::vs=>o.1=v.1∧qbB X o.2 v.2∧qfO X os vs
 |_,_=>False
theorem qh4 (h:qac C σ a.tmps w own) (hp:qbV (sit C σ a.tmps w own) p) {tid:Nat→Nat}:∀(xs:List (Nat×Operand)) {os:List (Nat×Op1)},(qjB E p tid xs).run (qt σ)=some os→qfO (sit C σ a.tmps w own) os (xs.map fun x=>(x.1,a.eval x.2))
 |[],os,he=>by
  have:=Q.yc he;subst this;trivial
 |(i,x)::xs,os,he=>by
  obtain⟨o1,h1,he⟩:=Q.yb he;obtain⟨r,h2,he⟩:=Q.yb he;have:=Q.yc he;subst this;exact⟨rfl,qaz h hp h1,qh4 h hp xs h2⟩
theorem qfO.find {X:Sit}(k:Nat): {os:List (Nat×Op1)}→{vs:List (Nat×Value)}→qfO X os vs→
  (match os.find? (fun q=>q.1==k)with
   |some q=>∃v,vs.find? (fun q=>q.1==k)=some v∧qbB X q.2 v.2
   |none=>vs.find? (fun q=>q.1==k)=none)
 |[],[],_=>rfl
 |(i,o)::os,(j,v)::vs,⟨h1,h2,h3⟩=>by
  simp only at h1;subst h1;rw[List.find?_cons,List.find?_cons];by_cases hik:i=k
  ·subst hik;simp;exact h2
  ·have e:(i==k)=false:=by simp[hik]
   simp only[e];exact h3.find k
theorem qfO.map {X:Sit}: {os:List (Nat×Op1)}→{vs:List (Nat×Value)}→qfO X os vs→os.map (·.1)=vs.map (·.1)
 |[],[],_=>rfl
 |(i,o)::os,(j,v)::vs,⟨h1,_,h3⟩=>by simp[h3.map,show i=j from h1]
theorem qnu {F:Nat→Prop}{c d:BC}{c1 c2:List Value}{b1 b2:List Nat}(h1:qaD w F c c1 b1) (h2:qaD w F d c2 b2):qaD w F (qh1.pairBC c d) (c1++c2) (b1++b2):=by
 unfold qh1.pairBC;split
 ·exact⟨by rw[h1.1,h2.1];rfl,c1,c2,rfl,h1.2,h2.2⟩
 ·exact⟨c1,c2,b1,b2,rfl,rfl,h1,h2⟩
theorem qdT: {l:List Nat}→qiS l=true→l.Nodup
 |[],_=>zaH
 |a::l,h=>by
  simp only[qiS,zad,za8]at h;refine zax.2 ⟨fun hm=>?_,qdT h.2⟩;have:l.contains a=true:=by simpa using hm
  rw[this]at h;cases h.1
theorem qsJ {F:Nat→Prop}{A B:Ty}{z za zb:BC}{zs:List Value}(hz:qaD w F z zs []) (hs:z.size=A.size+B.size) (he:qq2 A B z=some (za,zb)):
  ∃z1 z2,zs=z1++z2∧qaD w F za z1 []∧qaD w F zb z2 []∧za.size=A.size∧zb.size=B.size:=by
 cases z with
 |pair c d=>
  simp only[qq2]at he;split at he
  ·rename_i h1;injection he with he;injection he with e1 e2;subst e1 e2;obtain⟨c1,c2,b1,b2,h2,h3,h4,h5⟩:=hz;obtain⟨rfl,rfl⟩:=List.append_eq_nil_iff.1 h3.symm;have hs:c.size+d.size=A.size+B.size:=hs;exact⟨c1,c2,h2,h4,h5,h1,by omega⟩
  ·cases he
 |val t x=>
  cases t with
  |pair a' b'=>
   simp only[qq2]at he;split at he
   ·rename_i h1;injection he with he;injection he with e1 e2;subst e1 e2;obtain⟨_,c1,c2,h2,h3,h4⟩:=hz;have hs:a'.size+b'.size=A.size+B.size:=hs;exact⟨c1,c2,h2,⟨rfl,h3⟩,⟨rfl,h4⟩,h1,by show b'.size=_;omega⟩
   ·cases he
  |_=>cases he
 |_=>cases he
theorem qlA (h:qac C σ a.tmps w own) {ps:List (Nat×Op1)}{vs:List (Nat×Value)}(hps:qfO (sit C σ a.tmps w own) ps vs):(T:Ty)→(i:Nat)→{z:BC}→{zs:List Value}→{r:BC×List Nat}→qaD w (C.free w own) z zs []→z.size=T.size→(qh1 z T i ps).run (qt σ)=some r→r.2.Nodup→
  ∃(css zss:List (List Value)) (bs:List Nat),zs=zss.flatten∧zss.map List.length=qbb T∧css.map List.length=qbb T∧qaD w (C.free w own) r.1 css.flatten bs∧(∀b∈bs,∃s∈r.2,b∈own s)∧bs.Nodup∧
   (∀k,k<css.length→css[k]? =match vs.find? (fun q=>q.1==i+k)with
    |some q=>some q.2.cells.toList
    |none=>zss[k]?)∧∀k q,k<css.length→vs.find? (fun q=>q.1==i+k)=some q→some q.2.cells.toList.length=(qbb T)[k]?
 |.pair A B,i,z,zs,r,hz,hzs,he,hn=>by
  unfold qh1 at he;have hf:=hps.find i;simp only at he;split at he;case h_2=>cases he
  rename_i za zb hsp;obtain⟨z1,z2,rfl,hz1,hz2,hs1,hs2⟩:=qsJ hz hzs hsp;have hl1:z1.length=A.size:=by rw[hz1.length,hs1]
  split at he
  ·rename_i q hq;rw[hq]at hf;obtain⟨v,hv,ho⟩:=hf;obtain⟨c,h1,he⟩:=Q.yb he;split at he;case isFalse=>cases he
   rename_i hemp;obtain⟨r',h2,he⟩:=Q.yb he;have:=Q.yc he;subst this;obtain⟨bs0,k1,k2,k3,k4⟩:=qhJ h ho h1 (by simpa using hemp);have hn':=zah.1 hn;obtain⟨css,zss,bs,g1,g2,g2',g3,g4,g5,g6,g7⟩:=qlA h hps B (i+1) hz2 hs2 h2 hn'.2.1;have hb0:∀b∈bs0,∃s∈c.2.2.map (·.s),b∈own s:=by
    intro b hb;rcases k4 with⟨_,e⟩|⟨s,e1,e2⟩
    ·rw[e]at hb;cases hb
    ·exact⟨s,by rw[e1];simp,by rw[←e2];exact hb⟩
   refine⟨v.2.cells.toList::css,z1::zss,bs0++bs,by rw[zaX,g1],by simp[qbb,g2,hl1],by rw[zaZ,g2',k2];rfl,?_,?_,?_,?_,?_⟩
   ·rw[zaX];exact qnu k1 g3
   ·intro b hb;rcases zaj.1 hb with hb|hb
    ·obtain⟨s,hs,hb⟩:=hb0 b hb;exact⟨s,zac _ hs,hb⟩
    ·obtain⟨s,hs,hb⟩:=g4 b hb;exact⟨s,zab _ hs,hb⟩
   ·refine zah.2 ⟨?_,g5,fun b hb b' hb' e=>?_⟩
    ·rcases k4 with⟨_,e⟩|⟨s,_,e⟩
     ·rw[e];exact zaH
     ·rw[e];exact h.nodup s
    ·subst e;obtain⟨s,hs,hb⟩:=hb0 b hb;obtain⟨s',hs',hb'⟩:=g4 b hb';have:=h.apart s s' b hb hb';subst this;exact hn'.2.2 s hs s hs' rfl
   ·intro k hk;cases k with
    |zero=>rw[zbf,hv];rfl
    |succ k=>
     have:=g6 k (by simpa using hk);rw[show i+1+k=i+(k+1)from by omega]at this;exact this
   ·intro k q' hk hq';cases k with
    |zero=>
     rw[zbf,hv]at hq';injection hq' with hq';subst hq';rw[k2];rfl
    |succ k=>exact g7 k q' (by simpa using hk) (by rw[show i+1+k=i+(k+1)from by omega];exact hq')
  ·rename_i hq;rw[hq]at hf;obtain⟨r',h2,he⟩:=Q.yb he;have:=Q.yc he;subst this;obtain⟨css,zss,bs,g1,g2,g2',g3,g4,g5,g6,g7⟩:=qlA h hps B (i+1) hz2 hs2 h2 hn;refine⟨z1::css,z1::zss,bs,by rw[zaX,g1],by simp[qbb,g2,hl1],by rw[zaZ,g2',hl1];rfl,?_,g4,g5,?_,?_⟩
   ·rw[zaX];exact qnu (b1:=[]) hz1 g3
   ·intro k hk;cases k with
    |zero=>rw[zbf,hf];rfl
    |succ k=>
     have:=g6 k (by simpa using hk);rw[show i+1+k=i+(k+1)from by omega]at this;exact this
   ·intro k q' hk hq';cases k with
    |zero=>rw[zbf,hf]at hq';cases hq'
    |succ k=>exact g7 k q' (by simpa using hk) (by rw[show i+1+k=i+(k+1)from by omega];exact hq')
 |.unit,i,z,zs,r,hz,hzs,he,hn=>by
  have:=Q.yc he;subst this;have hz:zs=[]:=zaV (by rw[hz.length,hzs];rfl);subst hz;exact⟨[],[],[],rfl,rfl,rfl,⟨rfl,rfl⟩,fun b hb=>(by cases hb),zaH,fun k hk=>(by cases hk),fun k q hk=>(by cases hk)⟩
 |.int _,_,_,_,_,_,_,he,_=>by cases he
 |.bool,_,_,_,_,_,_,he,_=>by cases he
 |.str,_,_,_,_,_,_,he,_=>by cases he
 |.err,_,_,_,_,_,_,he,_=>by cases he
 |.opt _,_,_,_,_,_,_,he,_=>by cases he
 |.map _ _,_,_,_,_,_,_,he,_=>by cases he
 |.slice _,_,_,_,_,_,_,he,_=>by cases he
 |.arr _ _,_,_,_,_,_,_,he,_=>by cases he
end
end Go.Vi
namespace Go.Vi
open Go.RowKit
def qf5:Ty→Nat→List (Nat×Nat)
 |.pair a b,off=>(off,a.size)::qf5 b (off+a.size)
 |_,_=>[]
theorem qo0:(T:Ty)→{zss:List (List Value)}→(off:Nat)→zss.map List.length=qbb T→{i:Nat}→{c:List Value}→zss[i]? =some c→(qf5 T off)[i]? =some (off+qkB zss i,c.length)
 |.pair a b,[],_,hz,_,_,hc=>by cases hc
 |.pair a b,z::zss,off,hz,i,c,hc=>by
  simp only[qbb,zaZ,List.cons.injEq]at hz;cases i with
  |zero=>
   injection hc with hc;subst hc;simp[qf5,qkB,hz.1]
  |succ i=>
   have:=qo0 b (off+a.size) hz.2 (i:=i) (c:=c) hc;simp only[qf5,List.getElem?_cons_succ,this,qkB,List.take_succ_cons,zaX,zag,hz.1,Nat.add_assoc]
 |.unit,zss,_,hz,_,_,hc=>by simp[qbb]at hz;subst hz;cases hc
 |.int _,zss,_,hz,_,_,hc=>by simp[qbb]at hz;subst hz;cases hc
 |.bool,zss,_,hz,_,_,hc=>by simp[qbb]at hz;subst hz;cases hc
 |.str,zss,_,hz,_,_,hc=>by simp[qbb]at hz;subst hz;cases hc
 |.err,zss,_,hz,_,_,hc=>by simp[qbb]at hz;subst hz;cases hc
 |.opt _,zss,_,hz,_,_,hc=>by simp[qbb]at hz;subst hz;cases hc
 |.map _ _,zss,_,hz,_,_,hc=>by simp[qbb]at hz;subst hz;cases hc
 |.slice _,zss,_,hz,_,_,hc=>by simp[qbb]at hz;subst hz;cases hc
 |.arr _ _,zss,_,hz,_,_,hc=>by simp[qbb]at hz;subst hz;cases hc
theorem qnw {P:Program}(w:World):(fs:List Field)→(T:Ty)→(off:Nat)→Lay P fs T off→(fs.mapM fun (f:Field)=>zbh f.offset<$> sizeOf f.type).run P w=.ok (qf5 T off) w
 |[],.unit,_,_=>rfl
 |f::fs,.pair a b,off,⟨h1,h2,h3⟩=>by
  have:=qnw w fs b (off+a.size) h3;simp[List.mapM_cons,h2,this,qf5,h1]
 |[],.pair _ _,_,h=>by cases h
 |[],.int _,_,h=>by cases h
 |[],.bool,_,h=>by cases h
 |[],.str,_,h=>by cases h
 |[],.err,_,h=>by cases h
 |[],.opt _,_,h=>by cases h
 |[],.map _ _,_,h=>by cases h
 |[],.slice _,_,h=>by cases h
 |[],.arr _ _,_,h=>by cases h
 |_::_,.unit,_,h=>by cases h
 |_::_,.int _,_,h=>by cases h
 |_::_,.bool,_,h=>by cases h
 |_::_,.str,_,h=>by cases h
 |_::_,.err,_,h=>by cases h
 |_::_,.opt _,_,h=>by cases h
 |_::_,.map _ _,_,h=>by cases h
 |_::_,.slice _,_,h=>by cases h
 |_::_,.arr _ _,_,h=>by cases h
theorem qtS {vs:List (Nat×Value)}(hn:qiS (vs.map (·.1))=true) {q:Nat×Value}(hq:q∈vs):vs.find? (fun r=>r.1==q.1)=some q:=by
 induction vs with
 |nil=>cases hq
 |cons v vs ih=>
  simp only[zaZ,qiS,zad,za8]at hn;rw[List.find?_cons];rcases zam.1 hq with rfl|hq
  ·simp
  ·have:v.1≠q.1:=fun e=>by
    have:(vs.map (·.1)).contains v.1=true:=by simp;exact⟨q.2,by rw[e];exact hq⟩
    rw[this]at hn;cases hn.1
   have e:(v.1==q.1)=false:=by simp[this]
   rw[e];exact ih hn.2 hq
section
variable {C:Ctx}{E:Env}{σ:St}{tm:Array Value}{a:Act}{w w':World}{own:Nat→List Nat}{o:Oper}{p:qg3} [Tabbed E C]
theorem qtP {X:Sit}{c:BC}{cs:List Value}{bs:List Nat}(ha:∀t x,c=.val t x→t.agg=true) (h:qaD X.w X.F c cs bs):qax X (qrx c) (.agg cs.toArray) bs:=by
 unfold qrx;split
 ·rename_i t x;refine⟨h.1,by simpa[Value.cells]using h.2,fun _=>⟨_,rfl⟩,fun hf=>?_⟩;rw[ha t x rfl]at hf;cases hf
 ·exact⟨cs,rfl,h⟩
theorem qmZ (c:BC):(qrx c).mentions=[]:=by
 unfold qrx;split<;>rfl
theorem qsb {ps:List (Nat×Op1)}{T:Ty}{i:Nat}{r:BC×List Nat}{lk:Nat→Ent}{z:BC}(he:(qh1 z T i ps).run lk=some r):T.struct=true∧∀t x,r.1=.val t x→t.agg=true:=by
 cases T with
 |pair A B=>
  refine⟨rfl,fun t x hx=>?_⟩;unfold qh1 at he;simp only at he;split at he;case h_2=>cases he
  split at he
  ·obtain⟨c,_,he⟩:=Q.yb he;split at he
   ·obtain⟨r',_,he⟩:=Q.yb he;have:=Q.yc he;subst this;simp only[qh1.pairBC]at hx;split at hx
    ·injection hx with h1 h2;subst h1;rfl
    ·cases hx
   ·cases he
  ·obtain⟨r',_,he⟩:=Q.yb he;have:=Q.yc he;subst this;simp only[qh1.pairBC]at hx;split at hx
   ·injection hx with h1 h2;subst h1;rfl
   ·cases hx
 |unit=>
  have:=Q.yc he;subst this;refine⟨rfl,fun t x hx=>?_⟩;injection hx with h1 h2;subst h1;rfl
 |_=>cases he
theorem qkf {X:Sit}:∀(k:Nat) {ps:List (Nat×Op1)}{vs:List (Nat×Value)},qfO X ps vs→qkq k ps=true→vs=((vs.map (·.2)).zipIdx k).map fun x=>(x.2,x.1)
 |k,[],[],_,_=>rfl
 |k,p::ps,v::vs,⟨h1,_,h3⟩,h=>by
  simp only[qkq,zad]at h;have e:p.1=k:=by simpa using h.1
  rw[zaZ,List.zipIdx_cons,zaZ,←qkf (k+1) h3 h.2,←e,h1]
 |_,[],_::_,h,_=>by cases h
 |_,_::_,[],h,_=>by cases h
theorem FW.mono {X:Sit}{a b:List Nat}(h:∀s∈a,s∈b) {x:Nat}(hx:FW X a x):FW X b x:=by
 rcases hx with hx|⟨s,hs,hx⟩
 ·exact .inl hx
 ·exact .inr ⟨s,h s hs,hx⟩
theorem qjd (h:qac C σ a.tmps w own) {e:Ty}:∀(n:Nat) (ps:List (Nat×Op1)) (vs:List (Nat×Value)) {r:List e.den×List Nat},qfO (sit C σ a.tmps w own) ps vs→(qjC e n (ps.map (·.2))).run (qt σ)=some r→
  vs.length=n∧r.1.length=n∧∀(i:Nat) x v,r.1[i]? =some x→vs[i]? =some v→qau w (FW (sit C σ a.tmps w own) r.2) e x v.2
 |0,[],[],r,_,he=>by
  have:=Q.yc he;subst this;exact⟨rfl,rfl,fun i x v hx=>by cases hx⟩
 |n+1,p::ps,v::vs,r,⟨h1,h2,h3⟩,he=>by
  obtain⟨x,k1,he⟩:=Q.yb he;obtain⟨r',k2,he⟩:=Q.yb he;have:=Q.yc he;subst this;obtain⟨g1,g2,g3⟩:=qjd h n ps vs h3 k2;refine⟨by simp[g1],by simp[g2],fun i y u hy hu=>?_⟩;cases i with
  |zero=>
   injection hy with hy;injection hu with hu;subst hy;subst hu;exact(qc8 h h2 k1).mono fun b hb _=>FW.mono (fun s hs=>zac _ hs) hb
  |succ i=>exact(g3 i y u hy hu).mono fun b hb _=>FW.mono (fun s hs=>zab _ hs) hb
 |0,_::_,_,_,_,he=>by cases he
 |n+1,[],_,_,_,he=>by cases he
 |0,[],_::_,_,h,_=>by cases h
 |n+1,_::_,[],_,h,_=>by cases h
theorem qtt (hE:qa2 E C.P) (h:qac C σ a.tmps w own) {t n:Nat}{e:Ty}{parts:Array (Nat×Operand)}(hop:o.op=.build t parts) {ps:List (Nat×Op1)}{vs:List (Nat×Value)}(hvs:(parts.toList.map fun x=>(x.1,a.eval x.2))=vs) (hps:qfO (sit C σ a.tmps w own) ps vs) (hty:E.ty t=some (.arr n e)) {f:Eff}
  (he:((if qkq 0 ps&&(decide (0<n*e.size)&&decide ((E.zero t).map BC.size=some (n*e.size)))then(qjC e n (ps.map (·.2))).bind fun r=>(if e.flat then Q.ret []else qcb r.2).bind fun fz=>okE (fz++qbp o (.val (.arr n e) r.1))else .fail:Q Eff)).run (qt σ)=some f) (hd:∀u∈f.upd,u.s<σ.length):qcW C o a w (qk σ f.upd):=by
 split at he;case isFalse=>cases he
 rename_i hcond;simp only[zad,decide_eq_true_eq]at hcond;obtain⟨c1,c2,c3⟩:=hcond;obtain⟨r,h2,he⟩:=Q.yb he;obtain⟨fz,h3,he⟩:=Q.yb he;have:=qI he;subst this;obtain⟨g1,g2,g3⟩:=qjd h n ps vs hps h2;have hpos:0<e.size:=Nat.pos_of_mul_pos_left c2;have hlenv:∀v∈vs.map (·.2),v.cells.size=e.size:=by
  intro v hv;obtain⟨q,hq,rfl⟩:=zaS.1 hv;obtain⟨j,hj,rfl⟩:=zaw hq;have:=(g3 j _ _ (zaa (by omega)) (zaa hj)).1.length;simpa using this
 obtain⟨c,hzc,hcs⟩:=zaB.1 c3;obtain⟨i,z,k1,k2,k3⟩:=hE.zero t c hzc;have hzl:z.cells.size=n*e.size:=by
  have:=(k3 w (C.free w own)).length;rw[hcs]at this;simpa using this
 have hfill:=Great.fill_whole hpos (vs.map (·.2)) z.cells hlenv (by simp[g1,hzl]);rw[←qkf 0 hps c1]at hfill;have hm:(parts.map fun (i,x)=>(i,a.eval x)).toList=vs:=by rw[←hvs];simp
 have hsz:=congrFun (hE.size t e (.inr ⟨n,hty⟩)) w;have hrun:(execOp a.eval o).run C.P w=.ok (.value (.agg ((vs.map (·.2)).flatMap fun v=>v.cells.toList).toArray)) w:=by
  unfold execOp;rw[hop];simp only[Sem.run_bind,Instr.build,zeroValue,typeInfo,Sem.run_pure,Result.andThen_ok,run_underlying (hE.arr t n e hty),hm];simp[hfill,k1,k2,hsz]
 refine qhO h hrun h3 hd ?_;refine⟨⟨g2,(vs.map (·.2)).map (fun v=>v.cells.toList),by simp[g1],?_,fun j x c hj hc=>?_⟩,fun _=>⟨_,rfl⟩,fun hf=>by cases hf⟩
 ·show((vs.map (·.2)).flatMap fun v=>v.cells.toList).toArray.toList=_;rw[List.toList_toArray,List.flatMap_def]
 ·rw[List.getElem?_map]at hc;obtain⟨v,hv,rfl⟩:=zaB.1 hc;rw[List.getElem?_map]at hv;obtain⟨q,hq,rfl⟩:=zaB.1 hv;exact(g3 j x q hj hq).1
theorem qrz (hE:qa2 E C.P) (h:qac C σ a.tmps w own) (hp:qbV (sit C σ a.tmps w own) p) {t:Nat}{parts:Array (Nat×Operand)}(hop:o.op=.build t parts) {f:Eff}
  (he:(qec E p o).run (qt σ)=some f) (hd:∀u∈f.upd,u.s<σ.length) (hc:qcT f.chk):qcW C o a w (qk σ f.upd):=by
 unfold qec at he;rw[hop]at he;obtain⟨ps,h1,he⟩:=Q.yb he;have hps:=qh4 h hp parts.toList h1;generalize hvs:(parts.toList.map fun x=>(x.1,a.eval x.2))=vs at hps;split at he
 ·rename_i n e hty;exact qtt hE h hop hvs hps hty he hd
 case h_3=>cases he
 rename_i T _ hty;obtain⟨r,h2,he⟩:=Q.yb he;split at he;case h_2=>cases he
 rename_i d hdst;split at he;case isFalse=>cases he
 rename_i hcond;simp only[zad]at hcond;obtain⟨⟨c1,c2⟩,c3⟩:=hcond;have:=qI he;subst this;have hnd:=zax.1 (qdT c1);obtain⟨hst,hag⟩:=qsb h2;obtain⟨fs,z,i,s1,s2,s3,s4,s5⟩:=hE.struct t T hty hst;obtain⟨hz0,hz1⟩:qaD w (C.free w own) (if E.ownz=true then(E.zero t).getD (.val T T.dflt)else .val T T.dflt) z.cells.toList []∧(if E.ownz=true then(E.zero t).getD (.val T T.dflt)else BC.val T T.dflt).size=T.size:=by
  have key:qaD w (C.free w own) (if E.ownz=true then(E.zero t).getD (.val T T.dflt)else .val T T.dflt) z.cells.toList []:=by
   split
   ·cases hzz:E.zero t with
    |none=>exact⟨rfl,s4 w (C.free w own)⟩
    |some c=>
     obtain⟨i',z',k1,k2,k3⟩:=hE.zero t c hzz;rw[s2]at k1;injection k1 with k1;subst k1;rw[s3]at k2;injection k2 with k2;subst k2;exact k3 w _
   ·exact⟨rfl,s4 w (C.free w own)⟩
  exact⟨key,by rw[←key.length];exact(s4 w (C.free w own)).length⟩
 obtain⟨css,zss,bs,g1,g2,g2',g3,g4,g5,g6,g7⟩:=qlA h hps T 0 (zs:=z.cells.toList) hz0 hz1 h2 hnd.2;have hvd:qiS (vs.map (·.1))=true:=by rw[←hps.map];exact c2
 have hlen:zss.length=css.length:=by
  have e1:=congrArg List.length g2;have e2:=congrArg List.length g2';simp at e1 e2;omega
 have hbound:∀q∈vs,q.1<css.length:=by
  intro q hq;have:q.1∈ps.map (·.1):=by rw[hps.map];exact zaR hq
  obtain⟨q',hq',e⟩:=zaS.1 this;have:=zaN.1 c3 q' hq';have h3:q'.1<(qbb T).length:=of_decide_eq_true this;rw[e,←g2',List.length_map]at h3;exact h3
 obtain⟨rr,f1,f2⟩:=qqI (place:=fun i=>(qf5 T 0).toArray[i]?) vs zss z.cells g1 (fun i c hi=>by
  have:=qo0 T 0 g2 hi;simpa using this) (fun q hq=>by
  have hb:=hbound q hq;have:=g7 q.1 q hb (by rw[zaM];exact qtS hvd hq);rw[←g2,List.getElem?_map]at this;have hz:zss[q.1]? =some (zss[q.1]'(by omega)):=zaa (by omega);rw[hz]at this;exact⟨_,hz,by injection this⟩)
 have hfin:vs.foldl (fun css q=>css.set q.1 q.2.cells.toList) zss=css:=by
  apply List.ext_getElem?;intro k;rw[qk3 (css:=zss) vs hvd k];by_cases hk:k<css.length
  ·rw[g6 k hk];simp only[zaM];cases vs.find? (fun q=>q.1==k)with
   |none=>rfl
   |some q=>simp[show k<zss.length by omega]
  ·rw[zaD (show css.length≤k by omega)];cases vs.find? (fun q=>q.1==k)with
   |none=>simp only;rw[zaD (by omega)]
   |some q=>simp[show ¬k<zss.length by omega]
 rw[hfin]at f2;have hrr:rr=css.flatten.toArray:=by rw[←f2]
 subst hrr;have hrun:(execOp a.eval o).run C.P w=.ok (.value (.agg css.flatten.toArray)) w:=by
  unfold execOp;rw[hop];have hm:(parts.map fun (i,x)=>(i,a.eval x)).toList=vs:=by rw[←hvs];simp
  have hpl:=qnw w fs.toList T 0 s5;simp only[Sem.run_bind,Instr.build,zeroValue,typeInfo,s2,s3,Sem.run_pure,Result.andThen_ok,run_underlying s1,hm];rw[Array.mapM_eq_mapM_toList];have f1':Instr.fill (fun x=>(qf5 T 0)[x]?) z.cells vs=some css.flatten.toArray:=by simpa using f1
  simp[hpl,f1',s2,s3]
 refine qz hrun ?_;rw[qd0 a hdst];refine h.mut (hd ⟨d,true,qrx r.1⟩ (by simp)) r.2 (fun s hs=>⟨hd ⟨s,true,.undef⟩ (by simp;exact .inl hs),fun e=>hnd.1 (by have e:s=d:=e;exact e▸hs)⟩) (qbc.refl _ _) (fun b hb=>.inr (.inr (g4 b hb))) g5 (qtP hag g3) (qmZ _)
theorem qk9 {P:Program}{t:Nat}{i:TypeInfo}(h:P.info? t=some i):(sizeOf t).run P w=.ok i.size w:=by
 simp[sizeOf,typeInfo,h]
theorem qpS (hE:qa2 E C.P) (h:qac C σ a.tmps w own) {t:Nat}{e:Ty}{parts:Array (Nat×Operand)}(hop:o.op=.buildSlice t 1 parts) (hty:E.ty t=some (.slice e)) {cs:List Value}(hvs:(parts.toList.map fun x=>(x.1,a.eval x.2))=[(0,Value.agg cs.toArray)])
  {d s:Nat}(hdst:o.dst=some d) {c:BC}{bs0:List Nat}(hb:qaD w (C.free w own) c cs bs0) (hsub:bs0.Sublist (own s)) (hne:s≠d) (hsz:c.size=e.size) (hpos:0<e.size) (hsmall:e.size≤16777216) (hsnd:c.sound=true) (hbb:etB (qlX E.msk (E.etid t))=E.etid t)
  {y:e.den}(hy:c.toM (etM (qlX E.msk (E.etid t))) e 0=some y) (hdl:d<σ.length) (hsl:s<σ.length):qcW C o a w (qk σ [⟨s,true,.undef⟩,⟨d,true,.own (qlX E.msk (E.etid t)) e [y]⟩]):=by
 have hcl:cs.length=e.size:=by rw[hb.length,hsz]
 obtain⟨b1,q1,q2⟩:=qsY e hb hsz hy;obtain⟨i,z,k1,k2,k3,k4,k5,k6,k7⟩:=hE.elem' hty;have hfill:=Great.fill_whole hpos ([(0,Value.agg cs.toArray)].map (·.2)) ((Array.range (1*i.size)).map (z.cells[· % z.cells.size]!)) (by simp[Value.cells,hcl]) (by simp[k3]);have hrun:=run_buildSlice (P:=C.P) w t (E.etid t) 1 #[(0,Value.agg cs.toArray)] cs.toArray i z k1 k2 k4 (by rw[k3];omega) (by rw[k3];omega) (by
  rw[k3]at hfill⊢
  simpa[Value.cells]using hfill)
 have hx:(execOp a.eval o).run C.P w=.ok (.value (.slice (some ⟨w.heap.size,0,none⟩) 1 1)) (w.alloc (.cells cs.toArray (E.etid t))):=by
  unfold execOp;rw[hop];have hm:(parts.map fun (i,x)=>(i,a.eval x))= #[(0,Value.agg cs.toArray)]:=by
   have:(parts.map fun (i,x)=>(i,a.eval x)).toList=[(0,Value.agg cs.toArray)]:=by rw[←hvs];simp
   apply Array.ext';rw[this]
  simp only[Sem.run_bind,hm,hrun];rfl
 refine qz hx ?_;rw[qd0 a hdst];have hnds:=(h.nodup s).sublist hsub;have hold:∀b∈bs0,b<w.heap.size:=fun b hb=>(h.mine _ _ (hsub.subset hb)).2;refine h.mut hdl [s] (fun s' hs'=>by simp at hs';subst hs';exact⟨hsl,hne⟩) ((qbc.alloc (fun _=>False) w (.cells cs.toArray (E.etid t))).mono fun _ h=>h.elim) (bs:=w.heap.size::b1) (fun b hb=>?_) (zax.2 ⟨fun hm=>by have:=hold _ (q1.subset hm);omega,hnds.sublist q1⟩) ?_ rfl
 ·rcases zam.1 hb with rfl|hb
  ·exact .inl ⟨zay _,by simp⟩
  ·exact .inr (.inr ⟨s,by simp,hsub.subset (q1.subset hb)⟩)
 ·refine⟨cs,[b1],⟨by simp[hcl],.inr ⟨w.heap.size,1,cs.toArray,rfl,za6 _,?_,by simp,by simp[maxLen],by simp[hcl],by simpa using zas (by omega)⟩⟩,rfl,by simp[Value.ownBlock],fun i x b hi hb=>?_⟩
  ·rw[hbb];exact heap_alloc_new w _
  ·cases i with
   |succ i=>cases hi
   |zero=>
    injection hi with hi;injection hb with hb;subst hi;subst hb;rw[qcc,Nat.zero_mul,zbe,zas (by omega)];exact q2.keep (fun k hk hlt=>⟨hk,by simp;omega,qdc w _ k hlt⟩) fun k hk hlt=>qdc w _ k hlt
theorem qs4 (hE:qa2 E C.P) (h:qac C σ a.tmps w own) {t n:Nat}{e:Ty}{parts:Array (Nat×Operand)}(hop:o.op=.buildSlice t n parts) (hty:E.ty t=some (.slice e)) {ps:List (Nat×Op1)}{vs:List (Nat×Value)}
  (hps:qfO (sit C σ a.tmps w own) ps vs) (hvs:(parts.toList.map fun x=>(x.1,a.eval x.2))=vs) {f:Eff}(he:qtf E o t n e ps=some f) (hd:∀u∈f.upd,u.s<σ.length):qcW C o a w (qk σ f.upd):=by
 unfold qtf at he;split at he;case h_2=>cases he
 rename_i j x1;obtain⟨xs,xv,xa⟩:=x1;split at he;case h_2=>cases he
 rename_i d s c hdst h1 h2;simp only at h1 h2;subst h1;subst h2;split at he;case isFalse=>cases he
 rename_i hcond;obtain⟨rfl,rfl,hne,hsz,hag,hpos,hsmall,hsnd,hbb,hmm⟩:=hcond;split at he;case h_2=>cases he
 rename_i y hy;injection he with he;subst he;match vs,hps with
 |[(j',v)],hps=>
 obtain⟨hj,ho,_⟩:=hps;have hj:0=j':=hj;subst hj;obtain⟨hv0,_,cs,hv,hb⟩:=ho;have hb:qaD w (C.free w own) c cs (own s):=hb;subst hv;exact qpS hE h hop hty hvs hdst hb (List.Sublist.refl _) hne hsz hpos hsmall hsnd hbb hy (hd ⟨d,true,.own (qlX E.msk (E.etid t)) e [y]⟩ (by simp)) (hd ⟨s,true,.undef⟩ (by simp))
theorem qlK (hE:qa2 E C.P) (h:qac C σ a.tmps w own) (hp:qbV (sit C σ a.tmps w own) p) {t n:Nat}{parts:Array (Nat×Operand)}(hop:o.op=.buildSlice t n parts) {f:Eff}
  (he:(qec E p o).run (qt σ)=some f) (hd:∀u∈f.upd,u.s<σ.length) (hc:qcT f.chk):qcW C o a w (qk σ f.upd):=by
 unfold qec at he;rw[hop]at he;obtain⟨ps,h1,he⟩:=Q.yb he;have hps:=qh4 h hp parts.toList h1;generalize hvs:(parts.toList.map fun x=>(x.1,a.eval x.2))=vs at hps;split at he;case h_2=>cases he
 rename_i e hty;split at he
 ·rename_i fm hfm;have:=Q.yc he;subst this;exact qs4 hE h hop hty hps hvs hfm hd
 split at he
 ·rename_i h0;have hfe:=qI he;clear he;subst hfe;obtain⟨hn0,hp0,hmk⟩:=h0;have hp1:parts= #[]:=Array.eq_empty_of_size_eq_zero hp0;rw[hn0,hp1]at hop;have hu:=(hE.elem t e hty).under;obtain⟨i,z,k1,k2,k3,k4,k5,k6,k7⟩:=hE.elem' hty;refine h.newOwn hmk (n:=0) (cap:=0) (cur:= #[]) rfl (zay _) (by simp) (by simp) (fun i x hi=>by cases hi) ?_ hd;unfold execOp;rw[hop];simp[Sem.run_bind,Instr.buildSlice,run_underlying k1,qk9 k2,Instr.fill,newRow];have e0:(Array.map (fun _=>(default:Value)) (Array.range 0))= #[]:=by apply Array.ext';simp
  rw[e0]
 split at he;case isFalse=>cases he
 rename_i hcond;simp only[zad]at hcond;obtain⟨⟨c1,c2⟩,c3,hmk⟩:=hcond;have hmk:=List.isEmpty_iff.1 hmk;have c2:n*e.size≤16777216:=of_decide_eq_true c2;have c3:0<n*e.size:=of_decide_eq_true c3;obtain⟨r,h2,he⟩:=Q.yb he;obtain⟨fz,h3,he⟩:=Q.yb he;have:=qI he;subst this;obtain⟨g1,g2,g3⟩:=qjd h n ps vs hps h2;obtain⟨i,z,k1,k2,k3,k4,k5,k6,k7⟩:=hE.elem' hty;have hpos:0<e.size:=Nat.pos_of_mul_pos_left c3;have hlenv:∀v∈vs.map (·.2),v.cells.size=e.size:=by
  intro v hv;obtain⟨q,hq,rfl⟩:=zaS.1 hv;obtain⟨j,hj,rfl⟩:=zaw hq;have:=(g3 j _ _ (zaa (by omega)) (zaa hj)).1.length;simpa using this
 have hfill:=Great.fill_whole hpos (vs.map (·.2)) ((Array.range (n*i.size)).map (z.cells[· % z.cells.size]!)) hlenv (by simp[g1,k3]);rw[←qkf 0 hps c1]at hfill;have hrun:=run_buildSlice (P:=C.P) w t (E.etid t) n vs.toArray _ i z k1 k2 k4 (by rw[k3];omega) (by rw[k3];omega) (by rw[k3]at hfill⊢;exact hfill);have hx:(execOp a.eval o).run C.P w=.ok (.value (.slice (some ⟨w.heap.size,0,none⟩) n n)) (w.alloc (.cells ((vs.map (·.2)).flatMap fun v=>v.cells.toList).toArray (E.etid t))):=by
  unfold execOp;rw[hop];have hm:(parts.map fun (i,x)=>(i,a.eval x))=vs.toArray:=by rw[←hvs];apply Array.ext';simp
  simp only[Sem.run_bind,hm,hrun];rfl
 have hcells:∀F,(∀(i:Nat) (x:e.den) (v:Nat×Value),r.1[i]? =some x→vs[i]? =some v→qau w F e x v.2)→∀(i:Nat) (x:e.den),r.1[i]? =some x→Rep w F e x (((((vs.map (·.2)).flatMap fun v=>v.cells.toList).toArray).toList.drop (i*e.size)).take e.size):=by
  intro F hF j x hj;have hjl:j<vs.length:=by rw[g1,←g2];exact(zao.1 hj).1
  have:=hF j x vs[j] hj (zaa hjl);have e1:((vs.map (·.2)).flatMap fun v=>v.cells.toList)=((vs.map (·.2)).map fun v=>v.cells.toList).flatten:=by rw[List.flatMap_def]
  have hl:∀c∈((vs.map (·.2)).map fun v=>v.cells.toList),c.length=e.size:=by
   intro c hc;obtain⟨v,hv,rfl⟩:=zaS.1 hc;simpa using hlenv v hv
  rw[List.toList_toArray,e1,(qbO hl (i:=j) (c:=vs[j].2.cells.toList) (by simp[hjl])).1];exact this.1
 have hnm:n≤maxLen:=by
  have:n*1≤n*e.size:=Nat.mul_le_mul_left _ hpos;simp only[maxLen];omega
 have hsz:(((vs.map (·.2)).flatMap fun v=>v.cells.toList).toArray).size=n*e.size:=by
  have e1:((vs.map (·.2)).flatMap fun v=>v.cells.toList)=((vs.map (·.2)).map fun v=>v.cells.toList).flatten:=by rw[List.flatMap_def]
  have hl:∀c∈((vs.map (·.2)).map fun v=>v.cells.toList),c.length=e.size:=by
   intro c hc;obtain⟨v,hv,rfl⟩:=zaS.1 hc;simpa using hlenv v hv
  rw[List.size_toArray,e1,qeV hl];simp[g1]
 by_cases hf:e.flat=true
 ·rw[if_pos hf]at h3;have:=Q.yc h3;subst this;exact h.newOwn hmk g2 (zay _) hnm hsz (hcells _ fun i x v hx hv=>(g3 i x v hx hv).flat hf) hx hd
 ·rw[if_neg hf]at h3;obtain⟨own',q1,q2,q3,q4⟩:=qdg r.2 h h3;rw[qbC];exact q1.newOwn hmk g2 (zay _) hnm hsz (hcells _ fun i x v hx hv=>(g3 i x v hx hv).mono fun b hb _=>q4 b hb) hx (fun u hu=>by rw[qO];exact hd u (zab _ hu))
end
end Go.Vi
namespace Go.Vi
open Go.RowKit
def qaq (P:Program) (w:World) (F:Nat→Prop):(ps:List PM)→PMs.den ps→List Value→List Nat→List Nat→Prop
 |[],_,vs,g,i=>vs=[]∧g=[]∧i=[]
 |.val t::ps,x,vs,g,i=>∃v r,vs=v::r∧qau w F t x.1 v∧qaq P w F ps x.2 r g i
 |.own et e::ps,x,vs,g,i=>∃v r g1 g2,vs=v::r∧g=g1++g2∧q8 w F et e x.1 v g1∧qaq P w F ps x.2 r g2 i
 |.io t::ps,x,vs,g,i=>∃(b:Nat) (r:List Value) (i2:List Nat) (cs:List Value) (te:Nat),vs=ptr b 0::r∧i=b::i2∧w.heap[b]? =some (.cells cs.toArray te (0,0))∧Rep w F t x.1 cs∧qaq P w F ps x.2 r g i2
 |.ior et e::ps,x,vs,g,i=>∃v r i1 i2,vs=v::r∧i=i1++i2∧qcd w F et e x.1 v i1∧qaq P w F ps x.2 r g i2
 |.iob b::ps,x,vs,g,i=>∃(bk:Nat) (r:List Value) (g1 g2 i2:List Nat) (cs:List Value) (te:Nat),vs=ptr bk 0::r∧g=g1++g2∧i=bk::i2∧w.heap[bk]? =some (.cells cs.toArray te (0,0))∧qaD w F (b.un x.1) cs g1∧qaq P w F ps x.2 r g2 i2
 |.fn a b::ps,x,vs,g,i=>∃v r,vs=v::r∧qn7 P w F a b x.1 v∧qaq P w F ps x.2 r g i
 |.lsw et e::ps,x,vs,g,i=>∃v r i1 i2,vs=v::r∧i=i1++i2∧qcd w F et e x.1.1 (qeb v) i1∧qjL P w F et e x.1.2 v∧qaq P w F ps x.2 r g i2
 |.nil _ _::ps,x,vs,g,i=>∃r,vs=.slice none 0 0::r∧qaq P w F ps x.2 r g i
 |.rd t::ps,x,vs,g,i=>∃(ad:Addr) (cs:List Value) (r:List Value),vs=.pointer (some ad)::r∧F ad.block∧ad.block<w.heap.size∧qfL w ad cs∧Rep w F t x.1 cs∧qaq P w F ps x.2 r g i
def qc5 (w:World) (F:Nat→Prop):(ps:List PM)→PMs.ioDen ps→List Value→List Nat→List Nat→Prop
 |[],_,_,i,js=>i=[]∧js=[]
 |.io t::ps,y,as,i,js=>∃(b:Nat) (i2:List Nat) (cs:List Value) (te:Nat),i=b::i2∧w.heap[b]? =some (.cells cs.toArray te (0,0))∧Rep w F t y.1 cs∧qc5 w F ps y.2 as.tail i2 js
 |.iob b::ps,y,as,i,js=>∃(bk:Nat) (i2 j1 j2:List Nat) (cs:List Value) (te:Nat),i=bk::i2∧js=j1++j2∧w.heap[bk]? =some (.cells cs.toArray te (0,0))∧qaD w F (b.un y.1) cs j1∧qc5 w F ps y.2 as.tail i2 j2
 |.ior et e::ps,y,as,i,js=>∃i1 i2,i=i1++i2∧qcd w F et e y.1 (as.headD undef) i1∧qc5 w F ps y.2 as.tail i2 js
 |.lsw et e::ps,y,as,i,js=>∃i1 i2,i=i1++i2∧qcd w F et e y.1 (qeb (as.headD undef)) i1∧qc5 w F ps y.2 as.tail i2 js
 |.val _::ps,y,as,i,js=>qc5 w F ps y as.tail i js
 |.own _ _::ps,y,as,i,js=>qc5 w F ps y as.tail i js
 |.fn _ _::ps,y,as,i,js=>qc5 w F ps y as.tail i js
 |.nil _ _::ps,y,as,i,js=>qc5 w F ps y as.tail i js
 |.rd _::ps,y,as,i,js=>qc5 w F ps y as.tail i js
def qgn (w:World) (F:Nat→Prop) (g i bs:List Nat) (b:Nat):Prop:=(F b∨b∈g∨w.heap.size≤b)∧b∉bs∧b∉i
def qr.Post (C:qr) (w:World) (F:Nat→Prop) (as:List Value) (g i:List Nat) (y:RMs.den C.rs×PMs.ioDen C.ps) (v:Value) (w':World):Prop:=
 ∃vs bs js,v=qfD vs∧(bs++js).Nodup∧(∀b∈bs++js,(b∈g∨w.heap.size≤b)∧b<w'.heap.size)∧qa3 w' (qgn w F g i (bs++js)) (qdd C.rs y.1) vs bs∧qc5 w' (qgn w F g i (bs++js)) C.ps y.2 as i js∧qbc (fun b=>b∈g++i) w w'
theorem qr.Post.mk0 {C:qr}{w:World}{F:Nat→Prop}{as:List Value}{g i:List Nat}{y:RMs.den C.rs×PMs.ioDen C.ps}{v:Value}{w':World}(vs:List Value) (bs:List Nat) (h1:v=qfD vs) (h2:bs.Nodup) (h3:∀b∈bs,(b∈g∨w.heap.size≤b)∧b<w'.heap.size)
  (h4:qa3 w' (qgn w F g i bs) (qdd C.rs y.1) vs bs) (h5:qc5 w' (qgn w F g i bs) C.ps y.2 as i []) (h6:qbc (fun b=>b∈g++i) w w'):C.Post w F as g i y v w':=
 ⟨vs,bs,[],h1,by rwa [zar],by rwa [zar],by rwa [zar],by rwa [zar],h6⟩
def qr.okT (P:Program) (T:qpF) (f:Nat) (C:qr):Prop:=
 (∀as w,(callFunc f as).run P w=.ok (.enter f as) w)∧
 ∀(w:World) (F:Nat→Prop) (x:PMs.den C.ps) (y:RMs.den C.rs×PMs.ioDen C.ps) (as:List Value) (g i:List Nat),qen T w F→qaq P w F C.ps x as g i→(∀b∈g++i,¬F b∧b<w.heap.size)→(g++i).Nodup→C.sem x=some y→
  Calls P f as.toArray w fun e w'=>∃v,e=.returned v∧C.Post w F as g i y v w'
abbrev qr.ok (P:Program) (f:Nat) (C:qr):Prop:=C.okT P (fun _=>none) f
def qgd (E:Env) (P:Program):Prop:=∀f C,E.fn f=some C→C.okT P E.tabs f
theorem qe9.mono {w:World}{F F':Nat→Prop}:(ts:List Ty)→{x:denL ts}→{vs:List Value}→(∀b,F b→F' b)→qe9 w F ts x vs→qe9 w F' ts x vs
 |[],_,_,_,h=>h
 |t::ts,_,_,hF,⟨v,r,h1,h2,h3⟩=>⟨v,r,h1,h2.mono fun b hb _=>hF b hb,h3.mono ts hF⟩
theorem qmF {P:Program}{w:World}{F:Nat→Prop}:(ts:List Ty)→{x:PMs.den (valPs ts)}→{vs:List Value}→{g i:List Nat}→qaq P w F (valPs ts) x vs g i→qe9 w F ts (qvI ts x) vs∧g=[]∧i=[]
 |[],_,_,_,_,h=>h
 |t::ts,_,_,_,_,⟨v,r,h1,h2,h3⟩=>by
  obtain⟨k1,k2,k3⟩:=qmF ts h3;exact⟨⟨v,r,h1,h2,k1⟩,k2,k3⟩
theorem ql8 {P:Program}{w:World}{F:Nat→Prop}:(ts:List Ty)→{x:denL ts}→{vs:List Value}→qe9 w F ts x vs→qaq P w F (valPs ts) (toPs ts x) vs [] []
 |[],_,_,h=>⟨h,rfl,rfl⟩
 |t::ts,_,_,⟨v,r,h1,h2,h3⟩=>⟨v,r,h1,h2,ql8 ts h3⟩
theorem qkz {w:World}{F:Nat→Prop}:(us:List Ty)→{y:RMs.den (valRs us)}→{vs:List Value}→{bs:List Nat}→qa3 w F (qdd (valRs us) y) vs bs→qe9 w F us (qwc us y) vs∧bs=[]
 |[],_,_,_,h=>h
 |t::ts,_,_,_,⟨v,r,b1,b2,h1,h2,h3,h4⟩=>by
  obtain⟨k1,k2⟩:=qkz ts h4;have h3:b1=[]∧_:=h3;exact⟨⟨v,r,h1,h3.2,k1⟩,by rw[h2,h3.1,k2];rfl⟩
theorem qnG {w:World}{F:Nat→Prop}:(us:List Ty)→{y:denL us}→{vs:List Value}→qe9 w F us y vs→qa3 w F (qdd (valRs us) (quV us y)) vs []
 |[],_,_,h=>⟨h,rfl⟩
 |t::ts,_,_,⟨v,r,h1,h2,h3⟩=>⟨v,r,[],[],h1,rfl,⟨rfl,h2⟩,qnG ts h3⟩
theorem qk0:(ts:List Ty)→PMs.yg (valPs ts)=true
 |[]=>rfl
 |_::r=>qk0 r
theorem ql9:(ts:List Ty)→(y:PMs.ioDen (valPs ts))→qeB (valPs ts) y []=[]
 |[],_=>rfl
 |_::r,y=>ql9 r y
theorem qkV {w:World}{F:Nat→Prop}:(ts:List Ty)→{y:PMs.ioDen (valPs ts)}→{as:List Value}→qc5 w F (valPs ts) y as [] []
 |[],_,_=>⟨rfl,rfl⟩
 |_::r,y,as=>qkV r (y:=y) (as:=as.tail)
theorem qmt {E:Env}{lk:Nat→Ent}:(ts:List Ty)→{os:List Op1}→{A:qsk (valPs ts)}→(qaF E (valPs ts) os).run lk=some A→True∧A.ios=[]∧A.gone=[]
 |[],[],A,h=>by
  have:=Q.yc h;subst this;exact⟨trivial,rfl,rfl⟩
 |[],_::_,_,h=>by cases h
 |_::_,[],_,h=>by cases h
 |t::r,o::os,A,h=>by
  obtain⟨x,h1,h⟩:=Q.yb h;obtain⟨q,h2,h⟩:=Q.yb h;have:=Q.yc h;subst this;exact qmt r h2
theorem quM {E:Env}{P:Program}(hF:qgd E P) {w:World}{F:Nat→Prop}{ts us:List Ty}{X:Sit}(hX:X.P=P∧X.w=w∧X.F=F) (hT:qen E.tabs w F) {a:AV}{v:Value}{φ:denL ts→Option (denL us)}(h:fnOf E ts us a=some φ) (hr:qax X a v []):qn7 P w F ts us φ v:=by
 obtain⟨rfl,rfl,rfl⟩:=hX;unfold fnOf at h;split at h
 ·split at h
  ·rename_i hc;obtain⟨rfl,rfl⟩:=hc;injection h with h;subst h;exact hr.2
  ·cases h
 ·rename_i f;split at h;case h_2=>cases h
  rename_i C hC;have hok:=hF f C hC;obtain⟨ps,rs,sem⟩:=C;split at h;case isFalse=>cases h
  rename_i hc;obtain⟨h1,h2⟩:=hc;simp only at h1 h2;subst h1;subst h2;injection h with h;subst h;obtain⟨_,vs,hv,hcs⟩:=hr;have hvs:vs=[]:=hcs.1;subst hvs;refine⟨f,#[],hv,hok.1,fun w' F' x y as hkp hvals hy=>?_⟩;simp only[qdR,zaB]at hy;obtain⟨z,hz,rfl⟩:=hy;refine Calls.mono (by simpa using hok.2 w' F' (toPs ts x) z as [] [] (hT.keep hkp) (ql8 ts hvals) (fun b hb=>by cases hb) zaH hz) ?_;rintro e w'' ⟨v',rfl,rs,bs,js,rfl,_,_,hres,_,hk⟩;obtain⟨k1,rfl⟩:=qkz us hres;refine⟨rs,rfl,k1.mono us fun b hb=>?_,hk.mono fun b hb=>by cases hb⟩;rcases hb.1 with h|h|h
  ·exact .inl h
  ·cases h
  ·exact .inr h
 ·cases h
theorem qaq.mono {P:Program}{w:World}{F F':Nat→Prop}(hF:∀b,F b→F' b):(ps:List PM)→{x:PMs.den ps}→{vs:List Value}→{g i:List Nat}→qaq P w F ps x vs g i→qaq P w F' ps x vs g i
 |[],_,_,_,_,h=>h
 |.val t::ps,_,_,_,_,⟨v,r,h1,h2,h3⟩=>⟨v,r,h1,h2.mono fun b hb _=>hF b hb,h3.mono hF ps⟩
 |.own et e::ps,_,_,_,_,⟨v,r,g1,g2,h1,h2,h3,h4⟩=>⟨v,r,g1,g2,h1,h2,h3.keep (fun b hb hlt=>⟨hF b hb,hlt,rfl⟩) (fun _ _ _=>rfl),h4.mono hF ps⟩
 |.io t::ps,_,_,_,_,⟨b,r,i2,cs,te,h1,h2,h3,h4,h5⟩=>⟨b,r,i2,cs,te,h1,h2,h3,h4.keep fun b hb hlt=>⟨hF b hb,hlt,rfl⟩,h5.mono hF ps⟩
 |.iob b::ps,_,_,_,_,⟨bk,r,g1,g2,i2,cs,te,h1,h2,h3,h4,h5,h6⟩=>⟨bk,r,g1,g2,i2,cs,te,h1,h2,h3,h4,h5.keep (fun b hb hlt=>⟨hF b hb,hlt,rfl⟩) (fun _ _ _=>rfl),h6.mono hF ps⟩
 |.ior et e::ps,_,_,_,_,⟨v,r,i1,i2,h1,h2,h3,h4⟩=>⟨v,r,i1,i2,h1,h2,h3.keep (fun b hb hlt=>⟨hF b hb,hlt,rfl⟩) (fun _ _ _=>rfl),h4.mono hF ps⟩
 |.fn a b::ps,_,_,_,_,⟨v,r,h1,h2,h3⟩=>⟨v,r,h1,h2.keep fun b hb hlt=>⟨hF b hb,hlt,rfl⟩,h3.mono hF ps⟩
 |.lsw et e::ps,_,_,_,_,⟨v,r,i1,i2,h1,h2,h3,h4,h5⟩=>⟨v,r,i1,i2,h1,h2,h3.keep (fun b hb hlt=>⟨hF b hb,hlt,rfl⟩) (fun _ _ _=>rfl),h4.keep fun b hb hlt=>⟨hF b hb,hlt,rfl⟩,h5.mono hF ps⟩
 |.nil _ _::ps,_,_,_,_,⟨r,h1,h2⟩=>⟨r,h1,h2.mono hF ps⟩
 |.rd _::ps,_,_,_,_,⟨ad,cs,r,h1,h2,h3,h4,h5,h6⟩=>⟨ad,cs,r,h1,hF _ h2,h3,h4,h5.keep fun b hb hlt=>⟨hF b hb,hlt,rfl⟩,h6.mono hF ps⟩
theorem qaD.flat {w:World}{F F':Nat→Prop}:(b:qcv)→{y:b.den}→{cs:List Value}→{bs:List Nat}→b.flat=true→qaD w F (b.un y) cs bs→qaD w F' (b.un y) cs bs
 |.val t,_,_,_,hf,h=>⟨h.1,h.2.flat hf⟩
 |.own et e,_,_,_,hf,⟨v,h1,h2⟩=>⟨v,h1,h2.flat hf⟩
 |.pair a b,_,_,_,hf,⟨c1,c2,b1,b2,h1,h2,h3,h4⟩=>by
  simp only[qcv.flat,zad]at hf;exact⟨c1,c2,b1,b2,h1,h2,h3.flat a hf.1,h4.flat b hf.2⟩
 |.hole _,_,_,_,_,h=>h
theorem qa3.turn {w:World}{F F':Nat→Prop}:(rs:List RM)→{y:RMs.den rs}→{vs:List Value}→{bs:List Nat}→(RMs.flat rs=true∨∀b,F b→b<w.heap.size→F' b)→qa3 w F (qdd rs y) vs bs→qa3 w F' (qdd rs y) vs bs
 |[],_,_,_,_,h=>h
 |.val t::rs,_,_,_,hF,⟨v,r,b1,b2,h1,h2,h3,h4⟩=>⟨v,r,b1,b2,h1,h2,⟨h3.1,by
   rcases hF with hF|hF
   ·simp only[RMs.flat,zad]at hF;exact h3.2.flat hF.1
   ·exact h3.2.mono hF⟩,h4.turn rs (by
   rcases hF with hF|hF
   ·simp only[RMs.flat,zad]at hF;exact .inl hF.2
   ·exact .inr hF)⟩
 |.nz e::rs,_,_,_,hF,⟨v,r,b1,b2,h1,h2,h3,h4⟩=>by
  rcases hF with hF|hF
  ·cases hF
  ·exact⟨v,r,b1,b2,h1,h2,⟨h3.1,h3.2.1.mono hF,h3.2.2⟩,h4.turn rs (.inr hF)⟩
 |.agg b::rs,_,_,_,hF,⟨v,r,b1,b2,h1,h2,⟨cs,h3,h3'⟩,h4⟩=>⟨v,r,b1,b2,h1,h2,⟨cs,h3,by
   rcases hF with hF|hF
   ·simp only[RMs.flat,zad]at hF;exact h3'.flat b hF.1
   ·exact h3'.keep (fun b hb hlt=>⟨hF b hb hlt,hlt,rfl⟩) (fun _ _ _=>rfl)⟩,h4.turn rs (by
   rcases hF with hF|hF
   ·simp only[RMs.flat,zad]at hF;exact .inl hF.2
   ·exact .inr hF)⟩
 |.own et e::rs,_,_,_,hF,⟨v,r,b1,b2,h1,h2,h3,h4⟩=>⟨v,r,b1,b2,h1,h2,by
   rcases hF with hF|hF
   ·simp only[RMs.flat,zad]at hF;exact h3.flat hF.1
   ·exact q8.keep (fun b hb hlt=>⟨hF b hb hlt,hlt,rfl⟩) (fun _ _ _=>rfl) h3,h4.turn rs (by
   rcases hF with hF|hF
   ·simp only[RMs.flat,zad]at hF;exact .inl hF.2
   ·exact .inr hF)⟩
theorem qc5.turn {w:World}{F F':Nat→Prop}:(ps:List PM)→{y:PMs.ioDen ps}→{as:List Value}→{i js:List Nat}→(PMs.yg ps=true∨∀b,F b→b<w.heap.size→F' b)→qc5 w F ps y as i js→qc5 w F' ps y as i js
 |[],_,_,_,_,_,h=>h
 |.iob b::ps,_,_,_,_,hF,⟨bk,i2,j1,j2,cs,te,h1,h2,h3,h4,h5⟩=>⟨bk,i2,j1,j2,cs,te,h1,h2,h3,by
   rcases hF with hF|hF
   ·simp only[PMs.yg,zad]at hF;exact h4.flat b hF.1
   ·exact h4.keep (fun b hb hlt=>⟨hF b hb hlt,hlt,rfl⟩) (fun _ _ _=>rfl),h5.turn ps (by
   rcases hF with hF|hF
   ·simp only[PMs.yg,zad]at hF;exact .inl hF.2
   ·exact .inr hF)⟩
 |.ior et e::ps,_,_,_,_,hF,⟨i1,i2,h1,h2,h3⟩=>⟨i1,i2,h1,by
   rcases hF with hF|hF
   ·simp only[PMs.yg,zad]at hF;exact h2.flat hF.1
   ·exact qcd.keep (fun b hb hlt=>⟨hF b hb hlt,hlt,rfl⟩) (fun _ _ _=>rfl) h2,h3.turn ps (by
   rcases hF with hF|hF
   ·simp only[PMs.yg,zad]at hF;exact .inl hF.2
   ·exact .inr hF)⟩
 |.lsw et e::ps,_,_,_,_,hF,⟨i1,i2,h1,h2,h3⟩=>⟨i1,i2,h1,by
   rcases hF with hF|hF
   ·simp only[PMs.yg,zad]at hF;exact h2.flat hF.1
   ·exact qcd.keep (fun b hb hlt=>⟨hF b hb hlt,hlt,rfl⟩) (fun _ _ _=>rfl) h2,h3.turn ps (by
   rcases hF with hF|hF
   ·simp only[PMs.yg,zad]at hF;exact .inl hF.2
   ·exact .inr hF)⟩
 |.io t::ps,_,_,_,_,hF,⟨b,i2,cs,te,h1,h2,h3,h4⟩=>⟨b,i2,cs,te,h1,h2,by
   rcases hF with hF|hF
   ·simp only[PMs.yg,zad]at hF;exact h3.flat hF.1
   ·exact h3.keep fun b hb hlt=>⟨hF b hb hlt,hlt,rfl⟩,h4.turn ps (by
   rcases hF with hF|hF
   ·simp only[PMs.yg,zad]at hF;exact .inl hF.2
   ·exact .inr hF)⟩
 |.val _::ps,_,_,_,_,hF,h=>qc5.turn ps hF h
 |.own _ _::ps,_,_,_,_,hF,h=>qc5.turn ps hF h
 |.fn _ _::ps,_,_,_,_,hF,h=>qc5.turn ps hF h
 |.nil _ _::ps,_,_,_,_,hF,h=>qc5.turn ps hF h
 |.rd _::ps,_,_,_,_,hF,h=>qc5.turn ps hF h
section
variable {C:Ctx}{E:Env}{σ:St}{tm:Array Value}{a:Act}{w w':World}{own:Nat→List Nat}{o:Oper}{p:qg3} [Tabbed E C]
def qcC (L:Value) (σ:St) (tm:Array Value) (own:Nat→List Nat):List PM→List Value→List Nat→List Nat→List Nat→Prop
 |[],_,ss,i,inn=>ss=[]∧i=[]∧inn=[]
 |.io _::ps,as,ss,i,inn=>∃s r b i2 n1 n2,ss=s::r∧i=b::i2∧inn=n1++n2∧own s=b::n1∧tm.getD s undef=ptr b 0∧s<σ.length∧qcC L σ tm own ps as.tail r i2 n2
 |.iob _::ps,as,ss,i,inn=>∃s r b i2 n1 n2 m,ss=s::r∧i=b::i2∧inn=n1++n2∧own s=b::m∧tm.getD s undef=ptr b 0∧s<σ.length∧qcC L σ tm own ps as.tail r i2 n2
 |.ior _ _::ps,as,ss,i,inn=>∃s r i1 i2,ss=s::r∧i=i1++i2∧own s=i1∧tm.getD s undef=as.headD undef∧i1=(as.headD undef).ownBlock.toList∧s<σ.length∧qcC L σ tm own ps as.tail r i2 inn
 |.lsw _ _::ps,as,ss,i,inn=>∃s r i1 i2,ss=s::r∧i=i1++i2∧own s=i1∧tm.getD s undef=as.headD undef∧i1=(qeb (as.headD undef)).ownBlock.toList∧(as.headD undef=L∧∃cs,L=.agg cs)∧s<σ.length∧qcC L σ tm own ps as.tail r i2 inn
 |.val _::ps,as,ss,i,inn=>qcC L σ tm own ps as.tail ss i inn
 |.own _ _::ps,as,ss,i,inn=>qcC L σ tm own ps as.tail ss i inn
 |.fn _ _::ps,as,ss,i,inn=>qcC L σ tm own ps as.tail ss i inn
 |.nil _ _::ps,as,ss,i,inn=>qcC L σ tm own ps as.tail ss i inn
 |.rd _::ps,as,ss,i,inn=>qcC L σ tm own ps as.tail ss i inn
theorem qkM {L:Value}{σ:St}{tm:Array Value}{own:Nat→List Nat}:(ts:List Ty)→{as:List Value}→{ss i inn:List Nat}→qcC L σ tm own (valPs ts) as ss i inn→ss=[]∧i=[]∧inn=[]
 |[],_,_,_,_,h=>h
 |_::r,_,_,_,_,h=>qkM r h
theorem qjt (h:qac C σ tm w own) {s:Nat}{S T A B L:List Nat}(hT:T.Perm (s::S)) (hL:L.Perm (A++B)) (hA:A.Nodup) (hAs:∀b∈A,b∈own s) (hB:∀b∈B,∃s'∈S,b∈own s') (hBn:S.Nodup→B.Nodup):(∀b∈L,∃s'∈T,b∈own s')∧(T.Nodup→L.Nodup):=by
 refine⟨fun b hb=>?_,fun hn=>?_⟩
 ·rcases zaj.1 (hL.mem_iff.1 hb)with hb|hb
  ·exact⟨s,hT.mem_iff.2 zai,hAs b hb⟩
  ·obtain⟨s',h1,h2⟩:=hB b hb;exact⟨s',hT.mem_iff.2 (zae _ h1),h2⟩
 ·have hn:=zax.1 (hT.nodup_iff.1 hn);rw[hL.nodup_iff];refine zah.2 ⟨hA,hBn hn.2,fun b hb b' hb' e=>?_⟩;subst e;obtain⟨s',h1,h2⟩:=hB b hb';have:=h.apart s s' b (hAs b hb) h2;subst this;exact hn.1 h1
theorem qfv {s:Nat}(hne:(qt σ s).2≠ .undef):s<σ.length:=by
 by_cases h:s<σ.length
 ·exact h
 ·have:qt σ s=(0,.undef):=by simp[qt,List.getD,zaD (Nat.le_of_not_lt h)]
  rw[this]at hne;exact absurd rfl hne
theorem qpf {w:World}{ad:Addr}{cs:List Value}{off n:Nat}(h:qfL w ad cs):qfL w (ad.add off) ((cs.drop off).take n):=by
 intro j z hj;rw[qbj];refine h _ _ ?_;rw[zal]at hj;split at hj
 ·rwa [zan]at hj
 ·cases hj
theorem qde (hFn:qgd E C.P) (h:qac C σ a.tmps w own) (hpt:qt7 (sit C σ a.tmps w own)):(ps:List PM)→{os:List Op1}→{vs:List Value}→{A:qsk ps}→qk1 (sit C σ a.tmps w own) os vs→(∀o1∈os,∀s,o1.s=some s→o1.a≠ .undef→s<σ.length)→(qaF E ps os).run (qt σ)=some A→
  ∃g i inn,qaq C.P w (fun b=>FW (sit C σ a.tmps w own) A.ow b∨b∈inn) ps A.x vs g i∧((∀b∈g++(i++inn),∃s∈A.gone++A.ios,b∈own s)∧((A.gone++A.ios).Nodup→(g++(i++inn)).Nodup))∧(∀s∈A.gone,s<σ.length)∧qcC C.pn.ls σ a.tmps own ps vs A.ios i inn
 |[],[],[],A,_,_,he=>by
  have:=Q.yc he;subst this;exact⟨[],[],[],⟨rfl,rfl,rfl⟩,⟨fun b hb=>(by cases hb),fun _=>zaH⟩,fun s hs=>(by cases hs),rfl,rfl,rfl⟩
 |.val t::ps,o1::os,v::vs,A,⟨ho,hos⟩,hlt,he=>by
  obtain⟨x,h1,he⟩:=Q.yb he;obtain⟨r,h2,he⟩:=Q.yb he;have:=Q.yc he;subst this;obtain⟨g,i,inn,k1,k2,k4,k5⟩:=qde hFn h hpt ps hos (fun o2 ho2=>hlt o2 (zae _ ho2)) h2;refine⟨g,i,inn,⟨v,vs,rfl,(qc8 h ho h1).mono fun b hb _=>.inl (FW.mono (fun s hs=>zac _ hs) hb),k1.mono (fun b hb=>?_) ps⟩,k2,k4,k5⟩;exact hb.imp (FW.mono fun s hs=>zab _ hs) id
 |.own et e::ps,o1::os,v::vs,A,⟨ho,hos⟩,hlt,he=>by
  have hrec:∀ {r:qsk ps},(qaF E ps os).run (qt σ)=some r→_:=fun h2=>qde hFn h hpt ps hos (fun o2 ho2=>hlt o2 (zae _ ho2)) h2;have fin:∀(s:Nat) (et':Nat) (e':Ty) (xs':List e'.den) (xs:List e.den) (r:qsk ps),s<σ.length→et=et'→Ty.as (t:= .slice e') (.slice e) xs'=some xs→q8 w (C.free w own) et' e' xs' v (own s)→(qaF E ps os).run (qt σ)=some r→A=⟨(xs,r.x),r.ow,s::r.gone,r.ios⟩→
    ∃g i inn,qaq C.P w (fun b=>FW (sit C σ a.tmps w own) A.ow b∨b∈inn) (.own et e::ps) A.x (v::vs) g i∧((∀b∈g++(i++inn),∃s∈A.gone++A.ios,b∈own s)∧((A.gone++A.ios).Nodup→(g++(i++inn)).Nodup))∧(∀s∈A.gone,s<σ.length)∧qcC C.pn.ls σ a.tmps own (.own et e::ps) (v::vs) A.ios i inn:=by
   intro s et' e' xs' xs r hs hty has hown hr hA;subst hA;subst hty;obtain⟨e1,e2⟩:=Ty.ye has;injection e1 with e1;subst e1;have e2:xs'=xs:=e2;subst e2;obtain⟨g,i,inn,k1,k2,k4,k5⟩:=hrec hr;refine⟨own s++g,i,inn,⟨v,vs,own s,g,rfl,rfl,hown.keep (fun b hb hlt=>⟨.inl (.inl hb),hlt,rfl⟩) (fun _ _ _=>rfl),k1⟩,qjt h (List.Perm.refl _) (by rw[zaC]) (h.nodup s) (fun b hb=>hb) k2.1 k2.2,fun s' hs'=>?_,k5⟩
   ·rcases zam.1 hs' with rfl|hs'
    ·exact hs
    ·exact k4 s' hs'
  obtain⟨os1,ov,oa⟩:=o1;cases oa with
  |own et' e' xs'=>
   cases os1 with
   |some s=>
    simp only[qaF]at he;split at he
    ·rename_i hty;split at he
     ·rename_i xs has;obtain⟨r,h2,he⟩:=Q.yb he;exact fin s et' e' xs' xs r (hlt _ zai s rfl (by simp)) hty has ho.2.2 h2 (Q.yc he).symm
     ·cases he
    ·cases he
   |none=>
    simp only[qaF]at he;split at he
    ·rename_i hty;split at he
     ·rename_i xs has;obtain⟨r,h2,he⟩:=Q.yb he;have:=Q.yc he;subst this;subst hty;obtain⟨e1,e2⟩:=Ty.ye has;injection e1 with e1;subst e1;have e2:xs'=xs:=e2;subst e2;obtain⟨g,i,inn,k1,k2,k4,k5⟩:=hrec h2;have ho:q8 w (C.free w own) et e' xs' v []:=ho;exact⟨g,i,inn,⟨v,vs,[],g,rfl,rfl,ho.keep (fun b hb hlt=>⟨.inl (.inl hb),hlt,rfl⟩) (fun _ _ _=>rfl),k1⟩,k2,k4,k5⟩
     ·cases he
    ·cases he
  |ref s v0=>
   cases os1;all_goals
    simp only[qaF,Q.yd]at he
    split at he
    ·rename_i hv
     have hu:a.tmps.getD s undef=v:=(ho.unowned rfl).2 hv
     have hat:=h.at_ s
     rw[hu]at hat
     split at he
     ·rename_i et' e' xs' h3
      rw[h3]at hat
      split at he
      ·rename_i hty
       split at he
       ·rename_i xs has
        obtain⟨r,h2,he⟩:=Q.yb he
        exact fin s et' e' xs' xs r (qfv (by rw[h3];simp)) hty has hat h2 (Q.yc he).symm
       ·cases he
      ·cases he
     ·cases he
    ·cases he
  |_=>cases os1<;>simp only[qaF]at he<;>cases he
 |.io t::ps,o1::os,v::vs,A,⟨ho,hos⟩,hlt,he=>by
  have hrec:∀ {r:qsk ps},(qaF E ps os).run (qt σ)=some r→_:=fun h2=>qde hFn h hpt ps hos (fun o2 ho2=>hlt o2 (zae _ ho2)) h2;have fin:∀(s:Nat) (c:BC) (x:t.den) (fl:Bool) (r:qsk ps),s<σ.length→(∃(b:Nat) (cs:List Value) (bs':List Nat) (te:Nat),a.tmps.getD s undef=ptr b 0∧w.heap[b]? =some (.cells cs.toArray te (0,0))∧qaD w (C.free w own) c cs bs'∧own s=b::bs')→a.tmps.getD s undef=v→(if c.size=t.size then c.get 0 t else none)=some (x,fl)→(qaF E ps os).run (qt σ)=some r→A=⟨(x,r.x),r.ow,r.gone,s::r.ios⟩→
    ∃g i inn,qaq C.P w (fun b=>FW (sit C σ a.tmps w own) A.ow b∨b∈inn) (.io t::ps) A.x (v::vs) g i∧((∀b∈g++(i++inn),∃s∈A.gone++A.ios,b∈own s)∧((A.gone++A.ios).Nodup→(g++(i++inn)).Nodup))∧(∀s∈A.gone,s<σ.length)∧qcC C.pn.ls σ a.tmps own (.io t::ps) (v::vs) A.ios i inn:=by
   intro s c x fl r hslt hbx htm hget hr hA;subst hA;obtain⟨b,cs,bs',te,b1,b2,b3,b4⟩:=hbx;obtain⟨g,i,inn,k1,k2,k4,k5⟩:=hrec hr;split at hget;case isFalse=>cases hget
   rename_i hsz;obtain⟨q1,q2,_⟩:=b3.get hget;have hcl:=b3.length;have hall:(cs.drop 0).take t.size=cs:=by rw[zbe];exact zas (by omega)
   rw[hall]at q2;refine⟨g,b::i,bs'++inn,⟨b,vs,i,cs,te,by rw[←htm,b1],rfl,b2,q2.keep fun b hb hlt=>⟨?_,hlt,rfl⟩,k1.mono (fun b hb=>?_) ps⟩,qjt h List.perm_middle (A:=b::bs') (B:=g++(i++inn)) (List.perm_iff_count.2 fun a=>by simp only[List.count_append,List.count_cons];omega) (by rw[←b4];exact h.nodup s) (fun k hk=>by rw[b4];exact hk) k2.1 k2.2,k4,s,r.ios,b,i,bs',inn,rfl,rfl,rfl,b4,b1,hslt,k5⟩
   ·rcases hb with hb|hb
    ·exact .inl (.inl hb)
    ·exact .inr (zac _ hb)
   ·exact hb.imp id fun hb=>zab _ hb
  obtain⟨os1,ov,oa⟩:=o1;cases oa with
  |box c=>
   cases os1 with
   |some s=>
    simp only[qaF]at he;split at he
    ·rename_i x fl hget;obtain⟨r,h2,he⟩:=Q.yb he;have hs:s<σ.length:=hlt _ zai s rfl (by simp);obtain⟨g1,g2,b,cs,bs',te,g3,g4,g5,g6⟩:=ho;exact fin s c x fl r hs ⟨b,cs,bs',te,g1.symm.trans g3,g4,g5,g6⟩ g1.symm hget h2 (Q.yc he).symm
    ·cases he
   |none=>simp only[qaF]at he;cases he
  |pip s off=>
   cases off with
   |succ n=>cases os1<;>simp only[qaF]at he<;>cases he
   |zero=>
    cases os1;all_goals
     simp only[qaF,Q.yd]at he
     obtain⟨_,b,hu2,hu⟩:=ho.unowned rfl
     have hu2:=hpt s b hu2
     split at he
     ·rename_i c hc
      split at he
      ·rename_i x fl hget
       obtain⟨r,h2,he⟩:=Q.yb he
       exact fin s c x fl r (qfv (by rw[hc];simp)) (h.box hc) (by rw[hu];exact hu2) hget h2 (Q.yc he).symm
      ·cases he
     ·cases he
  |pbox s v0 off=>
   cases off with
   |succ n=>cases os1<;>simp only[qaF]at he<;>cases he
   |zero=>
    cases os1;all_goals
     simp only[qaF,Q.yd]at he
     split at he
     ·rename_i hv
      obtain⟨b,hu,hu2⟩:=(ho.unowned rfl).2 hv
      split at he
      ·rename_i c hc
       split at he
       ·rename_i x fl hget
        obtain⟨r,h2,he⟩:=Q.yb he
        exact fin s c x fl r (qfv (by rw[hc];simp)) (h.box hc) (by rw[hu2];exact hu) hget h2 (Q.yc he).symm
       ·cases he
      ·cases he
     ·cases he
  |_=>cases os1<;>simp only[qaF]at he<;>cases he
 |.iob b::ps,o1::os,v::vs,A,⟨ho,hos⟩,hlt,he=>by
  have hrec:∀ {r:qsk ps},(qaF E ps os).run (qt σ)=some r→_:=fun h2=>qde hFn h hpt ps hos (fun o2 ho2=>hlt o2 (zae _ ho2)) h2;have fin:∀(s:Nat) (c:BC) (x:b.den) (r:qsk ps),s<σ.length→(∃(b:Nat) (cs:List Value) (bs':List Nat) (te:Nat),a.tmps.getD s undef=ptr b 0∧w.heap[b]? =some (.cells cs.toArray te (0,0))∧qaD w (C.free w own) c cs bs'∧own s=b::bs')→a.tmps.getD s undef=v→c.fit b=some x→(qaF E ps os).run (qt σ)=some r→A=⟨(x,r.x),r.ow,r.gone,s::r.ios⟩→
    ∃g i inn,qaq C.P w (fun b=>FW (sit C σ a.tmps w own) A.ow b∨b∈inn) (.iob b::ps) A.x (v::vs) g i∧((∀b∈g++(i++inn),∃s∈A.gone++A.ios,b∈own s)∧((A.gone++A.ios).Nodup→(g++(i++inn)).Nodup))∧(∀s∈A.gone,s<σ.length)∧qcC C.pn.ls σ a.tmps own (.iob b::ps) (v::vs) A.ios i inn:=by
   intro s c x r hslt hbx htm hget hr hA;subst hA;obtain⟨bk,cs,bs',te,b1,b2,b3,b4⟩:=hbx;obtain⟨g,i,inn,k1,k2,k4,k5⟩:=hrec hr;have hnd:=h.nodup s;rw[b4]at hnd;have hnd:=zax.1 hnd;obtain⟨g1,q1,q2⟩:=b3.fit b hnd.2 hget;have hp:bs'.Perm (g1++bs'.filter (fun k=>decide (k∉g1))):=quW q1 hnd.2;refine⟨g1++g,bk::i,bs'.filter (fun k=>decide (k∉g1))++inn,⟨bk,vs,g1,g,i,cs,te,by rw[←htm,b1],rfl,rfl,b2,q2 _ (fun k hk=>.inl (.inl hk)) (fun k hk hkn=>.inr (zac _ (List.mem_filter.2 ⟨hk,by simpa using hkn⟩))),k1.mono (fun b hb=>hb.imp id fun hb=>zab _ hb) ps⟩,qjt h List.perm_middle (A:=bk::bs') (B:=g++(i++inn)) (List.perm_iff_count.2 fun a=>?_) (by rw[←b4];exact h.nodup s) (fun k hk=>by rw[b4];exact hk) k2.1 k2.2,k4,s,r.ios,bk,i,_,inn,bs',rfl,rfl,rfl,b4,b1,hslt,k5⟩;have:=List.perm_iff_count.1 hp a;simp only[List.count_append,List.count_cons]at this⊢
   omega
  obtain⟨os1,ov,oa⟩:=o1;cases oa with
  |box c=>
   cases os1 with
   |some s=>
    simp only[qaF]at he;split at he
    ·rename_i x hget;obtain⟨r,h2,he⟩:=Q.yb he;have hs:s<σ.length:=hlt _ zai s rfl (by simp);obtain⟨g1,g2,b,cs,bs',te,g3,g4,g5,g6⟩:=ho;exact fin s c x r hs ⟨b,cs,bs',te,g1.symm.trans g3,g4,g5,g6⟩ g1.symm hget h2 (Q.yc he).symm
    ·cases he
   |none=>simp only[qaF]at he;cases he
  |pip s off=>
   cases off with
   |succ n=>cases os1<;>simp only[qaF]at he<;>cases he
   |zero=>
    cases os1;all_goals
     simp only[qaF,Q.yd]at he
     obtain⟨_,b,hu2,hu⟩:=ho.unowned rfl
     have hu2:=hpt s b hu2
     split at he
     ·rename_i c hc
      split at he
      ·rename_i x hget
       obtain⟨r,h2,he⟩:=Q.yb he
       exact fin s c x r (qfv (by rw[hc];simp)) (h.box hc) (by rw[hu];exact hu2) hget h2 (Q.yc he).symm
      ·cases he
     ·cases he
  |pbox s v0 off=>
   cases off with
   |succ n=>cases os1<;>simp only[qaF]at he<;>cases he
   |zero=>
    cases os1;all_goals
     simp only[qaF,Q.yd]at he
     split at he
     ·rename_i hv
      obtain⟨b,hu,hu2⟩:=(ho.unowned rfl).2 hv
      split at he
      ·rename_i c hc
       split at he
       ·rename_i x hget
        obtain⟨r,h2,he⟩:=Q.yb he
        exact fin s c x r (qfv (by rw[hc];simp)) (h.box hc) (by rw[hu2];exact hu) hget h2 (Q.yc he).symm
       ·cases he
      ·cases he
     ·cases he
  |_=>cases os1<;>simp only[qaF]at he<;>cases he
 |.ior et e::ps,o1::os,v::vs,A,⟨ho,hos⟩,hlt,he=>by
  have hrec:∀ {r:qsk ps},(qaF E ps os).run (qt σ)=some r→_:=fun h2=>qde hFn h hpt ps hos (fun o2 ho2=>hlt o2 (zae _ ho2)) h2;have fin:∀(s:Nat) (et':Nat) (e':Ty) (xs':List e'.den) (xs:List e.den) (r:qsk ps),s<σ.length→et=et'∧etM et=[]→Ty.as (t:= .slice e') (.slice e) xs'=some xs→q8 w (C.free w own) et' e' xs' v (own s)→a.tmps.getD s undef=v→(qaF E ps os).run (qt σ)=some r→A=⟨(xs,r.x),r.ow,r.gone,s::r.ios⟩→
    ∃g i inn,qaq C.P w (fun b=>FW (sit C σ a.tmps w own) A.ow b∨b∈inn) (.ior et e::ps) A.x (v::vs) g i∧((∀b∈g++(i++inn),∃s∈A.gone++A.ios,b∈own s)∧((A.gone++A.ios).Nodup→(g++(i++inn)).Nodup))∧(∀s∈A.gone,s<σ.length)∧qcC C.pn.ls σ a.tmps own (.ior et e::ps) (v::vs) A.ios i inn:=by
   intro s et' e' xs' xs r hs hty has hown htv hr hA;subst hA;obtain⟨hty,hmk⟩:=hty;subst hty;have hown:=hown.toRow hmk;obtain⟨e1,e2⟩:=Ty.ye has;injection e1 with e1;subst e1;have e2:xs'=xs:=e2;subst e2;obtain⟨g,i,inn,k1,k2,k4,k5⟩:=hrec hr;have hob:own s=v.ownBlock.toList:=by
    obtain⟨_,cells,_,hb,_⟩:=hown;exact hb
   exact⟨g,own s++i,inn,⟨v,vs,own s,i,rfl,rfl,hown.keep (fun b hb hlt=>⟨.inl (.inl hb),hlt,rfl⟩) (fun _ _ _=>rfl),k1⟩,qjt h List.perm_middle (A:=own s) (B:=g++(i++inn)) (List.perm_iff_count.2 fun a=>by simp only[List.count_append];omega) (h.nodup s) (fun b hb=>hb) k2.1 k2.2,k4,s,r.ios,own s,i,rfl,rfl,rfl,htv,hob,hs,k5⟩
  obtain⟨os1,ov,oa⟩:=o1;cases oa with
  |own et' e' xs'=>
   cases os1 with
   |some s=>
    simp only[qaF]at he;split at he
    ·rename_i hty;split at he
     ·rename_i xs has;obtain⟨r,h2,he⟩:=Q.yb he;exact fin s et' e' xs' xs r (hlt _ zai s rfl (by simp)) hty has ho.2.2 ho.1.symm h2 (Q.yc he).symm
     ·cases he
    ·cases he
   |none=>simp only[qaF]at he;cases he
  |ref s v0=>
   cases os1;all_goals
    simp only[qaF,Q.yd]at he
    split at he
    ·rename_i hv
     have hu:a.tmps.getD s undef=v:=(ho.unowned rfl).2 hv
     have hat:=h.at_ s
     rw[hu]at hat
     split at he
     ·rename_i et' e' xs' h3
      rw[h3]at hat
      split at he
      ·rename_i hty
       split at he
       ·rename_i xs has
        obtain⟨r,h2,he⟩:=Q.yb he
        exact fin s et' e' xs' xs r (qfv (by rw[h3];simp)) hty has hat hu h2 (Q.yc he).symm
       ·cases he
      ·cases he
     ·cases he
    ·cases he
  |_=>cases os1<;>simp only[qaF]at he<;>cases he
 |.lsw et e::ps,o1::os,v::vs,A,⟨ho,hos⟩,hlt,he=>by
  obtain⟨os1,ov,oa⟩:=o1;simp only[qaF]at he;split at he;case h_2=>cases he
  rename_i et1 e1 φ;simp only[Q.yd]at he;split at he;case h_2=>cases he
  rename_i et2 e2 xs φ2 h0;split at he;case isFalse=>cases he
  rename_i hc;obtain⟨r,h2,he⟩:=Q.yb he;have:=Q.yc he;subst this;obtain⟨rfl,rfl,rfl,rfl⟩:=hc;obtain⟨_,hv,hL⟩:=ho.unowned rfl;have hv:v=C.pn.ls:=hv;have hat:=h.at_ 0;rw[h0]at hat;obtain⟨ht,hR,_⟩:=hat;have ht:a.tmps.getD 0 undef=C.pn.ls:=ht;obtain⟨g,i,inn,k1,k2,k4,k5⟩:=qde hFn h hpt ps hos (fun o2 ho2=>hlt o2 (zae _ ho2)) h2;have hob:own 0=(qeb v).ownBlock.toList:=by
   obtain⟨_,cells,_,hb,_⟩:=hR;rw[hb,ht,hv]
  rw[ht,←hv]at hR;have hL:qjL C.P w (C.free w own) et2 e2 φ v:=by rw[hv];exact hL
  exact⟨g,own 0++i,inn,⟨v,vs,own 0,i,rfl,rfl,hR.keep (fun b hb hlt=>⟨.inl (.inl hb),hlt,rfl⟩) (fun _ _ _=>rfl),hL.keep (fun b hb hlt=>⟨.inl (.inl hb),hlt,rfl⟩),k1⟩,qjt h List.perm_middle (A:=own 0) (B:=g++(i++inn)) (List.perm_iff_count.2 fun a=>by simp only[List.count_append];omega) (h.nodup 0) (fun b hb=>hb) k2.1 k2.2,k4,0,r.ios,own 0,i,rfl,rfl,rfl,ht.trans hv.symm,hob,⟨hv,by
   obtain⟨_,_,_,_,hq,_⟩:=hL;exact⟨_,hv▸hq⟩⟩,qfv (by rw[h0];simp),k5⟩
 |.nil et e::ps,o1::os,v::vs,A,⟨ho,hos⟩,hlt,he=>by
  have fin:v=.slice none 0 0→∀r:qsk ps,(qaF E ps os).run (qt σ)=some r→A=⟨((),r.x),r.ow,r.gone,r.ios⟩→∃g i inn,qaq C.P w (fun b=>FW (sit C σ a.tmps w own) A.ow b∨b∈inn) (.nil et e::ps) A.x (v::vs) g i∧((∀b∈g++(i++inn),∃s∈A.gone++A.ios,b∈own s)∧((A.gone++A.ios).Nodup→(g++(i++inn)).Nodup))∧(∀s∈A.gone,s<σ.length)∧qcC C.pn.ls σ a.tmps own (.nil et e::ps) (v::vs) A.ios i inn:=by
   intro hv r hr hA;subst hA;obtain⟨g,i,inn,k1,k2,k4,k5⟩:=qde hFn h hpt ps hos (fun o2 ho2=>hlt o2 (zae _ ho2)) hr;exact⟨g,i,inn,⟨vs,by rw[hv],k1⟩,k2,k4,k5⟩
  obtain⟨os1,ov,oa⟩:=o1;simp only[qaF]at he;split at he
  ·rename_i et' e';split at he;case isFalse=>cases he
   obtain⟨r,h2,he⟩:=Q.yb he;exact fin (ho.unowned rfl).2 r h2 (Q.yc he).symm
  ·rename_i et' e';split at he;case isFalse=>cases he
   obtain⟨r,h2,he⟩:=Q.yb he;have ho:q8 w (C.free w own) et' e' [] v []:=ho;refine fin ?_ r h2 (Q.yc he).symm;obtain⟨cells,_,k1,_,k2,_⟩:=ho;rcases k1.2 with⟨k3,_⟩|⟨g,cap,cur,k3,_⟩
   ·exact k3
   ·rw[k3]at k2;cases k2
  ·cases he
 |.rd t::ps,o1::os,v::vs,A,⟨ho,hos⟩,hlt,he=>by
  obtain⟨os1,ov,oa⟩:=o1;simp only[qaF]at he;split at he;case h_2=>cases he
  rename_i t' y off;split at he;case h_2=>cases he
  rename_i x hs;obtain⟨r,h2,he⟩:=Q.yb he;have:=Q.yc he;subst this;obtain⟨g,i,inn,k1,k2,k4,k5⟩:=qde hFn h hpt ps hos (fun o2 ho2=>hlt o2 (zae _ ho2)) h2;obtain⟨_,ad,cs,rfl,g1,g2,g3,g4⟩:=ho.unowned rfl;obtain⟨q1,q2⟩:=g4.sub hs;refine⟨g,i,inn,⟨_,(cs.drop off).take t.size,vs,rfl,?_,?_,qpf g3,q2.keep fun b hb hlt=>⟨.inl (.inl hb),hlt,rfl⟩,k1⟩,k2,k4,k5⟩
  ·rw[qam];exact .inl (.inl g1)
  ·rw[qam];exact g2
 |.fn ts us::ps,o1::os,v::vs,A,⟨ho,hos⟩,hlt,he=>by
  simp only[qaF]at he;split at he;case h_2=>cases he
  rename_i φ hφ;obtain⟨r,h2,he⟩:=Q.yb he;have:=Q.yc he;subst this;obtain⟨g,i,inn,k1,k2,k4,k5⟩:=qde hFn h hpt ps hos (fun o2 ho2=>hlt o2 (zae _ ho2)) h2;have hun:o1.a.unowned=true:=by
   unfold fnOf at hφ;split at hφ
   ·rename_i hq;rw[hq];rfl
   ·rename_i hq;rw[hq];rfl
   ·cases hφ
  have hfr:=quM hFn (w:=w) (F:=C.free w own) (X:=sit C σ a.tmps w own) ⟨rfl,rfl,rfl⟩ h.tabsE hφ (ho.unowned hun);exact⟨g,i,inn,⟨v,vs,rfl,hfr.keep fun b hb hlt=>⟨.inl (.inl hb),hlt,rfl⟩,k1⟩,k2,k4,k5⟩
 |[],_::_,_,_,_,_,he=>by cases he
 |.val _::ps,[],_,_,_,_,he=>by cases he
 |.own _ _::ps,[],_,_,_,_,he=>by cases he
 |.io _::ps,[],_,_,_,_,he=>by cases he
 |.fn _ _::ps,[],_,_,_,_,he=>by cases he
 |.nil _ _::ps,[],_,_,_,_,he=>by cases he
 |.rd _::ps,[],_,_,_,_,he=>by cases he
 |.ior _ _::ps,[],_,_,_,_,he=>by cases he
 |.iob _::ps,[],_,_,_,_,he=>by cases he
 |.lsw _ _::ps,[],_,_,_,_,he=>by cases he
 |[],[],_::_,_,h,_,_=>by cases h
 |.val _::ps,_::_,[],_,h,_,_=>by cases h
 |.own _ _::ps,_::_,[],_,h,_,_=>by cases h
 |.io _::ps,_::_,[],_,h,_,_=>by cases h
 |.fn _ _::ps,_::_,[],_,h,_,_=>by cases h
 |.nil _ _::ps,_::_,[],_,h,_,_=>by cases h
 |.rd _::ps,_::_,[],_,h,_,_=>by cases h
 |.ior _ _::ps,_::_,[],_,h,_,_=>by cases h
 |.iob _::ps,_::_,[],_,h,_,_=>by cases h
 |.lsw _ _::ps,_::_,[],_,h,_,_=>by cases h
end
end Go.Vi
namespace Go.Vi
open Go.RowKit
section
variable {C:Ctx}{E:Env}{σ:St}{tm:Array Value}{a:Act}{w w':World}{own:Nat→List Nat}{o:Oper}{p:qg3} [Tabbed E C]
theorem qrp (us:List U) (σ:St) (hn:(us.map (·.s)).Nodup) (hl:∀u∈us,u.s<σ.length):(∀u∈us,qt (qk σ us) u.s=((if u.bump then(qt σ u.s).1+1 else(qt σ u.s).1),u.a))∧∀s,s∉us.map (·.s)→qt (qk σ us) s=qt σ s:=
 ⟨fun u hu=>qcD us hn hu (hl u hu),fun s hs=>qdQ us hs⟩
def qoK (nw:Nat→List Nat) (s:Nat) (l:List Nat) (t:Nat):List Nat:=if t=s then l else nw t
theorem qcy {nw:Nat→List Nat}{s:Nat}{l:List Nat}:qoK nw s l s=l:=if_pos rfl
theorem qby {nw:Nat→List Nat}{s t:Nat}{l:List Nat}(h:t≠s):qoK nw s l t=nw t:=if_neg h
theorem qeq {L:Value}{F:Nat→Prop}:(ps:List PM)→{y:PMs.ioDen ps}→{as:List Value}→{ss i inn js:List Nat}→qcC L σ tm own ps as ss i inn→qc5 w F ps y as i js→ss.Nodup→(i++js).Nodup→
  (qeB ps y ss).map (·.s)=ss∧(∀s∈ss,s<σ.length)∧∃nw:Nat→List Nat,(∀u∈qeB ps y ss,(u.bump=true∨∀b,tm.getD u.s undef≠ptr b 0)∧u.a.mentions=[]∧∀X:Sit,X.pn.ls=L∧X.w=w→(PMs.yg ps=true∨∀b,F b→b<w.heap.size→X.F b)→qax X u.a (tm.getD u.s undef) (nw u.s))∧
   (∀s∈ss,(nw s).Nodup∧∀b∈nw s,b∈i++js)∧∀s∈ss,∀s'∈ss,∀b,b∈nw s→b∈nw s'→s=s'
 |[],_,_,_,_,_,_,⟨h1,_⟩,_,_,_=>by subst h1;exact⟨rfl,fun s hs=>(by cases hs),fun _=>[],fun u hu=>(by cases hu),fun s hs=>(by cases hs),fun s hs=>(by cases hs)⟩
 |.io t::ps,y,as,_,_,_,js,⟨s,ss,b,i2,n1,n2,h0,h1,h2,h3,h4,h5,h6⟩,⟨b',i2',cs,te,k1,k2,k3,k4⟩,hn,hij=>by
  subst h0;rw[h1]at k1;injection k1 with e1 e2;subst e1;subst e2;subst h1;have hn:=zax.1 hn;have hij:(b::(i2++js)).Nodup:=hij;have hij:=zax.1 hij;obtain⟨g1,g0,nw,g2,g3,g4⟩:=qeq (ss:=ss) ps h6 k4 hn.2 hij.2;have ne:∀s'∈ss,s'≠s:=fun s' hs' e=>hn.1 (e▸hs');refine⟨by simp[qeB,g1],fun s' hs'=>?_,qoK nw s [b],fun u hu=>?_,fun s' hs'=>?_,fun s1 hs1 s2 hs2 c hc1 hc2=>?_⟩
  ·rcases zam.1 hs' with rfl|hs'
   ·exact h5
   ·exact g0 s' hs'
  ·rcases zam.1 hu with rfl|hu
   ·refine⟨.inl rfl,rfl,fun X hw hF=>?_⟩;obtain⟨hL,hw⟩:=hw;subst hw;simp only[qcy];refine⟨b,cs,[],te,h4,k2,⟨rfl,?_⟩,rfl⟩;rcases hF with hF|hF
    ·simp only[PMs.yg,zad]at hF;exact k3.flat hF.1
    ·exact k3.keep fun b hb hlt=>⟨hF b hb hlt,hlt,rfl⟩
   ·rw[qby (ne u.s (by rw[←g1];exact zaR hu))];obtain⟨q1,q2,q3⟩:=g2 u hu;exact⟨q1,q2,fun X hw hF=>q3 X hw (hF.imp (fun hF=>by simp only[PMs.yg,zad]at hF;exact hF.2) id)⟩
  ·rcases zam.1 hs' with rfl|hs'
   ·rw[qcy];simp
   ·rw[qby (ne s' hs')];exact⟨(g3 s' hs').1,fun c hc=>zae _ ((g3 s' hs').2 c hc)⟩
  ·rcases zam.1 hs1 with rfl|hs3<;>rcases zam.1 hs2 with rfl|hs4
   ·rfl
   ·rw[qcy,zat]at hc1;rw[qby (ne s2 hs4)]at hc2;subst hc1;exact(hij.1 ((g3 s2 hs4).2 _ hc2)).elim
   ·rw[qcy,zat]at hc2;rw[qby (ne s1 hs3)]at hc1;subst hc2;exact(hij.1 ((g3 s1 hs3).2 _ hc1)).elim
   ·rw[qby (ne s1 hs3)]at hc1;rw[qby (ne s2 hs4)]at hc2;exact g4 s1 hs3 s2 hs4 c hc1 hc2
 |.iob t::ps,y,as,_,_,_,_,⟨s,ss,b,i2,n1,n2,m,h0,h1,h2,h3,h4,h5,h6⟩,⟨b',i2',j1,j2,cs,te,k1,k0,k2,k3,k4⟩,hn,hij=>by
  subst h0;rw[h1]at k1;injection k1 with e1 e2;subst e1;subst e2;subst h1;subst k0;have hn:=zax.1 hn;have hp:((b::i2)++(j1++j2)).Perm ((b::j1)++(i2++j2)):=List.perm_iff_count.2 fun a=>by simp only[List.count_append,List.count_cons];omega
  have hij:=zah.1 (hp.nodup_iff.1 hij);obtain⟨g1,g0,nw,g2,g3,g4⟩:=qeq (ss:=ss) ps h6 k4 hn.2 hij.2.1;have ne:∀s'∈ss,s'≠s:=fun s' hs' e=>hn.1 (e▸hs');refine⟨by simp[qeB,g1],fun s' hs'=>?_,qoK nw s (b::j1),fun u hu=>?_,fun s' hs'=>?_,fun s1 hs1 s2 hs2 c hc1 hc2=>?_⟩
  ·rcases zam.1 hs' with rfl|hs'
   ·exact h5
   ·exact g0 s' hs'
  ·rcases zam.1 hu with rfl|hu
   ·refine⟨.inl rfl,rfl,fun X hw hF=>?_⟩;obtain⟨hL,hw⟩:=hw;subst hw;simp only[qcy];refine⟨b,cs,j1,te,h4,k2,?_,rfl⟩;rcases hF with hF|hF
    ·simp only[PMs.yg,zad]at hF;exact k3.flat t hF.1
    ·exact k3.keep (fun b hb hlt=>⟨hF b hb hlt,hlt,rfl⟩) (fun _ _ _=>rfl)
   ·rw[qby (ne u.s (by rw[←g1];exact zaR hu))];obtain⟨q1,q2,q3⟩:=g2 u hu;exact⟨q1,q2,fun X hw hF=>q3 X hw (hF.imp (fun hF=>by simp only[PMs.yg,zad]at hF;exact hF.2) id)⟩
  ·rcases zam.1 hs' with rfl|hs'
   ·rw[qcy];exact⟨hij.1,fun c hc=>hp.mem_iff.2 (zac _ hc)⟩
   ·rw[qby (ne s' hs')];exact⟨(g3 s' hs').1,fun c hc=>hp.mem_iff.2 (zab _ ((g3 s' hs').2 c hc))⟩
  ·rcases zam.1 hs1 with rfl|hs3<;>rcases zam.1 hs2 with rfl|hs4
   ·rfl
   ·rw[qcy]at hc1;rw[qby (ne s2 hs4)]at hc2;exact(hij.2.2 c hc1 c ((g3 s2 hs4).2 _ hc2) rfl).elim
   ·rw[qcy]at hc2;rw[qby (ne s1 hs3)]at hc1;exact(hij.2.2 c hc2 c ((g3 s1 hs3).2 _ hc1) rfl).elim
   ·rw[qby (ne s1 hs3)]at hc1;rw[qby (ne s2 hs4)]at hc2;exact g4 s1 hs3 s2 hs4 c hc1 hc2
 |.ior et e::ps,y,as,_,_,_,js,⟨s,ss,i1,i2,h0,h1,h2,h3,h4,h5,h6⟩,⟨i1',i2',k1,k2,k3⟩,hn,hij=>by
  subst h0;have e1:i1'=i1:=by
   obtain⟨_,cells,_,hb,_⟩:=k2;rw[hb,h4]
  subst e1;rw[h1]at k1;have e2:=List.append_cancel_left k1;subst e2;subst h1;have hn:=zax.1 hn;rw[zaC]at hij;have hij:=zah.1 hij;obtain⟨g1,g0,nw,g2,g3,g4⟩:=qeq (ss:=ss) ps h6 k3 hn.2 hij.2.1;have ne:∀s'∈ss,s'≠s:=fun s' hs' e=>hn.1 (e▸hs');refine⟨by simp[qeB,g1],fun s' hs'=>?_,qoK nw s i1',fun u hu=>?_,fun s' hs'=>?_,fun s1 hs1 s2 hs2 c hc1 hc2=>?_⟩
  ·rcases zam.1 hs' with rfl|hs'
   ·exact h5
   ·exact g0 s' hs'
  ·rcases zam.1 hu with rfl|hu
   ·refine⟨.inr fun b hb=>qip k2.own b (h3.symm.trans hb),rfl,fun X hw hF=>?_⟩;obtain⟨hL,hw⟩:=hw;subst hw;show q8 _ _ et e y.1 (tm.getD s undef) (qoK nw s i1' s);rw[qcy];rw[h3];rcases hF with hF|hF
    ·simp only[PMs.yg,zad]at hF;exact(k2.flat hF.1).own
    ·exact q8.keep (fun b hb hlt=>⟨hF b hb hlt,hlt,rfl⟩) (fun _ _ _=>rfl) k2.own
   ·rw[qby (ne u.s (by rw[←g1];exact zaR hu))];obtain⟨q1,q2,q3⟩:=g2 u hu;exact⟨q1,q2,fun X hw hF=>q3 X hw (hF.imp (fun hF=>by simp only[PMs.yg,zad]at hF;exact hF.2) id)⟩
  ·rw[zaC];rcases zam.1 hs' with rfl|hs'
   ·rw[qcy];exact⟨hij.1,fun c hc=>zac _ hc⟩
   ·rw[qby (ne s' hs')];exact⟨(g3 s' hs').1,fun c hc=>zab _ ((g3 s' hs').2 c hc)⟩
  ·rcases zam.1 hs1 with rfl|hs3<;>rcases zam.1 hs2 with rfl|hs4
   ·rfl
   ·rw[qcy]at hc1;rw[qby (ne s2 hs4)]at hc2;exact(hij.2.2 c hc1 c ((g3 s2 hs4).2 _ hc2) rfl).elim
   ·rw[qcy]at hc2;rw[qby (ne s1 hs3)]at hc1;exact(hij.2.2 c hc2 c ((g3 s1 hs3).2 _ hc1) rfl).elim
   ·rw[qby (ne s1 hs3)]at hc1;rw[qby (ne s2 hs4)]at hc2;exact g4 s1 hs3 s2 hs4 c hc1 hc2
 |.lsw et e::ps,y,as,_,_,_,js,⟨s,ss,i1,i2,h0,h1,h2,h3,h4,h7,h5,h6⟩,⟨i1',i2',k1,k2,k3⟩,hn,hij=>by
  subst h0;have e1:i1'=i1:=by
   obtain⟨_,cells,_,hb,_⟩:=k2;rw[hb,h4]
  subst e1;rw[h1]at k1;have e2:=List.append_cancel_left k1;subst e2;subst h1;have hn:=zax.1 hn;rw[zaC]at hij;have hij:=zah.1 hij;obtain⟨g1,g0,nw,g2,g3,g4⟩:=qeq (ss:=ss) ps h6 k3 hn.2 hij.2.1;have ne:∀s'∈ss,s'≠s:=fun s' hs' e=>hn.1 (e▸hs');refine⟨by simp[qeB,g1],fun s' hs'=>?_,qoK nw s i1',fun u hu=>?_,fun s' hs'=>?_,fun s1 hs1 s2 hs2 c hc1 hc2=>?_⟩
  ·rcases zam.1 hs' with rfl|hs'
   ·exact h5
   ·exact g0 s' hs'
  ·rcases zam.1 hu with rfl|hu
   ·refine⟨.inr fun b hb=>?_,rfl,fun X hw hF=>?_⟩
    ·obtain⟨q1,cs,q2⟩:=h7;rw[show tm.getD s undef=ptr b 0 from hb,q1,q2]at h3;cases h3
    obtain⟨hL,hw⟩:=hw;subst hw;refine⟨h3.trans (h7.1.trans hL.symm),?_,fun ψ hψ=>by cases hψ⟩;show qcd _ _ et e y.1 (qeb (tm.getD s undef)) (qoK nw s i1' s);rw[qcy];rw[h3];rcases hF with hF|hF
    ·simp only[PMs.yg,zad]at hF;exact k2.flat hF.1
    ·exact k2.keep (fun b hb hlt=>⟨hF b hb hlt,hlt,rfl⟩) (fun _ _ _=>rfl)
   ·rw[qby (ne u.s (by rw[←g1];exact zaR hu))];obtain⟨q1,q2,q3⟩:=g2 u hu;exact⟨q1,q2,fun X hw hF=>q3 X hw (hF.imp (fun hF=>by simp only[PMs.yg,zad]at hF;exact hF.2) id)⟩
  ·rw[zaC];rcases zam.1 hs' with rfl|hs'
   ·rw[qcy];exact⟨hij.1,fun c hc=>zac _ hc⟩
   ·rw[qby (ne s' hs')];exact⟨(g3 s' hs').1,fun c hc=>zab _ ((g3 s' hs').2 c hc)⟩
  ·rcases zam.1 hs1 with rfl|hs3<;>rcases zam.1 hs2 with rfl|hs4
   ·rfl
   ·rw[qcy]at hc1;rw[qby (ne s2 hs4)]at hc2;exact(hij.2.2 c hc1 c ((g3 s2 hs4).2 _ hc2) rfl).elim
   ·rw[qcy]at hc2;rw[qby (ne s1 hs3)]at hc1;exact(hij.2.2 c hc2 c ((g3 s1 hs3).2 _ hc1) rfl).elim
   ·rw[qby (ne s1 hs3)]at hc1;rw[qby (ne s2 hs4)]at hc2;exact g4 s1 hs3 s2 hs4 c hc1 hc2
 |.val _::ps,y,as,ss,_,_,_,h1,h2,hn,hij=>by
  have:=qeq (ss:=ss) ps h1 (y:=y) h2 hn hij;simpa[qeB,PMs.yg]using this
 |.own _ _::ps,y,as,ss,_,_,_,h1,h2,hn,hij=>by
  have:=qeq (ss:=ss) ps h1 (y:=y) h2 hn hij;simpa[qeB,PMs.yg]using this
 |.nil _ _::ps,y,as,ss,_,_,_,h1,h2,hn,hij=>by
  have:=qeq (ss:=ss) ps h1 (y:=y) h2 hn hij;simpa[qeB,PMs.yg]using this
 |.rd _::ps,y,as,ss,_,_,_,h1,h2,hn,hij=>by
  have:=qeq (ss:=ss) ps h1 (y:=y) h2 hn hij;simpa[qeB,PMs.yg]using this
 |.fn _ _::ps,y,as,ss,_,_,_,h1,h2,hn,hij=>by
  have:=qeq (ss:=ss) ps h1 (y:=y) h2 hn hij;simpa[qeB,PMs.yg]using this
theorem qtD {X:Sit}(rs:List RM) {y:RMs.den rs}{vs:List Value}{bs:List Nat}(h:qa3 X.w X.F (qdd rs y) vs bs):qax X (qiQ rs y) (qfD vs) bs:=by
 match rs,y,h with
 |[],y,h=>
  obtain⟨h1,h2⟩:=h;subst h1;exact⟨[],rfl,rfl,h2⟩
 |[.val t],y,⟨v,r,b1,b2,h1,h2,h3,h4,h5⟩=>
  subst h4;rw[h1,h2,h5,h3.1];exact⟨rfl,h3.2⟩
 |[.nz e],y,⟨v,r,b1,b2,h1,h2,h3,h4,h5⟩=>
  subst h4;rw[h1,h2,h5,h3.1];exact⟨rfl,h3.2⟩
 |[.own et e],y,⟨v,r,b1,b2,h1,h2,h3,h4,h5⟩=>
  subst h4;rw[h1,h2,h5,zar];exact h3
 |[.agg b],y,⟨v,r,b1,b2,h1,h2,h3,h4,h5⟩=>
  subst h4;rw[h1,h2,h5,zar];exact h3
 |r1::r2::rs,y,h=>
  have e1:qiQ (r1::r2::rs) y=.tup (qdd (r1::r2::rs) y):=by unfold qiQ;split<;>first|rfl|(rename_i h _;cases h)
  rw[e1];refine⟨vs,?_,h⟩;cases r1<;>cases r2<;>(obtain⟨v,r,b1,b2,h1,h2,h3,v2,r2',b3,b4,h4,_⟩:=h;subst h1;subst h4;rfl)
theorem qmQ (rs:List RM) (y:RMs.den rs):(qiQ rs y).mentions=[]:=by
 unfold qiQ;split<;>rfl
theorem qmJ (h:qac C σ a.tmps w own) {D:qr}{f:Nat}{y:RMs.den D.rs×PMs.ioDen D.ps}{as:Array Value}{gone ios g i inn:List Nat}{al:List Value}{F:Nat→Prop}
  (hcall:(∀b∈g++i,¬F b∧b<w.heap.size)→(g++i).Nodup→Calls C.P f as w fun e w'=>∃v,e=.returned v∧D.Post w F al g i y v w') (hgw:∀b∈g++(i++inn),∃s∈gone++ios,b∈own s) (hgn:(gone++ios).Nodup→(g++(i++inn)).Nodup) (hgl:∀s∈gone,s<σ.length) (hbx:qcC C.pn.ls σ a.tmps own D.ps al ios i inn)
  (hF:∀b,F b→C.free w own b∨b∈inn∨(∃s,s∉gone++ios∧b∈own s))
  (hflat:(RMs.flat D.rs=true∧PMs.yg D.ps=true)∨∀b,F b→C.free w own b∨b∈inn)
  (hnd:(gone++ios).Nodup) (hdst:∀d,o.dst=some d→d∉gone++ios) (hd:∀u∈qbp o (qiQ D.rs y.1),u.s<σ.length)
  (hr:(execOp a.eval o).run C.P w=.ok (.enter f as) w):
  qcW C o a w (qk σ (gone.map (fun s=>⟨s,true,.undef⟩)++qeB D.ps y.2 ios++qbp o (qiQ D.rs y.1))):=by
 have hn1:=zah.1 hnd;have hgii:=hgn hnd;have hgi:(g++i).Nodup:=by
  rw[←zaC]at hgii;exact(zah.1 hgii).1
 have gi:∀b∈g++i,∃s∈gone++ios,b∈own s:=fun b hb=>hgw b (by
  rcases zaj.1 hb with hb|hb
  ·exact zac _ hb
  ·exact zab _ (zac _ hb))
 have bx2:∀b∈inn,∃s∈gone++ios,b∈own s:=fun b hb=>hgw b (zab _ (zab _ hb));have hg:∀b∈g,∃s∈gone++ios,b∈own s:=fun b hb=>gi b (zac _ hb);have bn2:∀b∈g++i,b∉inn:=fun b hb hm=>by
  rw[←zaC]at hgii;exact(zah.1 hgii).2.2 b hb b hm rfl
 have hpre:∀b∈g++i,¬F b∧b<w.heap.size:=by
  intro b hb;obtain⟨s,hs,hbs⟩:=gi b hb;refine⟨fun hFb=>?_,(h.mine s b hbs).2⟩;rcases hF b hFb with hf|hf|⟨s',hs',hf⟩
  ·exact hf.2.2 s hbs
  ·exact bn2 b hb hf
  ·have:=h.apart s s' b hbs hf;subst this;exact hs' hs
 intro K Q hK;unfold Oper.wp;rw[hr];refine Calls.mono (hcall hpre hgi) ?_;rintro e w' ⟨v,rfl,vs,bs,js,rfl,hbjn,hbl,hres,hios,hkept⟩;have hbjn':=zah.1 hbjn;have hbn:=hbjn'.1;have hbi:∀b∈bs++js,b∉i:=fun b hb hi=>by
  rcases(hbl b hb).1 with h1|h1
  ·exact(zah.1 hgi).2.2 b h1 b hi rfl
  ·have:=(hpre b (zab _ hi)).2;omega
 have hijn:(i++js).Nodup:=zah.2 ⟨(zah.1 hgi).2.1,hbjn'.2.1,fun b hb b' hb' e=>by
  subst e;exact hbi b (zab _ hb') hb⟩
 obtain⟨u1,bx3,nw0,u0',_⟩:=qeq (σ:=σ) (tm:=a.tmps) (own:=own) D.ps hbx hios hn1.2.1 hijn;generalize hus:gone.map (fun s=>(⟨s,true,.undef⟩:U))++qeB D.ps y.2 ios++qbp o (qiQ D.rs y.1)=us at hK;have hslots:us.map (·.s)=gone++ios++o.dst.toList:=by
  rw[←hus,za3,za3,u1];congr 1
  ·congr 1;rw[List.map_map];exact List.map_id _
  ·unfold qbp;cases o.dst<;>rfl
 have hdst':∀d∈o.dst.toList,d∉gone++ios:=fun d hd=>hdst d (by simpa using hd);have hsn:(us.map (·.s)).Nodup:=by
  rw[hslots];refine zah.2 ⟨hnd,by cases o.dst<;>simp,fun s hs s' hs' e=>?_⟩;subst e;exact hdst' s hs' hs
 have hub:∀u∈us,(u.bump=true∨(u.s∉o.dst.toList∧∀b,a.tmps.getD u.s undef≠ptr b 0))∧u.s<σ.length:=by
  intro u hu;rw[←hus]at hu;rcases zaj.1 hu with hu|hu
  ·rcases zaj.1 hu with hu|hu
   ·obtain⟨s,hs,rfl⟩:=zaS.1 hu;exact⟨.inl rfl,hgl s hs⟩
   ·have hui:u.s∈ios:=by rw[←u1];exact zaR hu
    refine⟨?_,bx3 u.s hui⟩;exact(u0' u hu).1.imp id fun hq=>⟨fun hm=>hdst' _ hm (zab _ hui),hq⟩
  ·refine⟨.inl ?_,hd u hu⟩;unfold qbp at hu;cases hdd:o.dst with
   |none=>rw[hdd]at hu;cases hu
   |some d=>rw[hdd]at hu;simp at hu;rw[hu]
 obtain⟨at1,at2⟩:=qrp us σ hsn (fun u hu=>(hub u hu).2);have bsAway:∀b∈bs++js,∀s,b∈own s→s∈gone++ios:=by
  intro b hb s hs;rcases(hbl b hb).1 with hgb|hfr
  ·obtain⟨s',hs',k⟩:=hg b hgb;have:=h.apart s s' b hs k;subst this;exact hs'
  ·have:=(h.mine s b hs).2;omega
 have free:∀own':Nat→List Nat,(∀s b,b∈own' s→b∈bs++js∨b∈i∨(b∈own s∧s∉gone++ios))→∀b,qgn w F g i (bs++js) b→b<w'.heap.size→(C.free w own b∨b∈inn∨(∃s,s∉gone++ios∧b∈own s)→C.free w own b∨b∈inn)→C.free w' own' b:=by
  rintro own' hown' b ⟨hb1,hb2,hb3⟩ hlt hnot;have hbase:C.base b:=by
   rcases hb1 with hb1|hb1|hb1
   ·rcases hF b hb1 with hf|hf|⟨s',hs',hf⟩
    ·exact hf.1
    ·obtain⟨s',_,k⟩:=bx2 b hf;exact .inr (h.mine s' b k).1
    ·exact .inr (h.mine s' b hf).1
   ·obtain⟨s,_,k⟩:=hg b hb1;exact .inr (h.mine s b k).1
   ·have:=h.kept.size;exact .inr (.inr (by omega))
  refine⟨hbase,hlt,fun s hs=>?_⟩;rcases hown' s b hs with h1|h1|⟨h1,h2⟩
  ·exact hb2 h1
  ·exact hb3 h1
  ·rcases hb1 with hb1|hb1|hb1
   ·rcases hnot (hF b hb1)with hf|hf
    ·exact hf.2.2 s h1
    ·obtain⟨s',hs',k⟩:=bx2 b hf;have:=h.apart s s' b h1 k;subst this;exact h2 hs'
   ·obtain⟨s',hs',k⟩:=hg b hb1;have:=h.apart s s' b h1 k;subst this;exact h2 hs'
   ·have:=(h.mine s b h1).2;omega
 have conv:∀own':Nat→List Nat,(∀s b,b∈own' s→b∈bs++js∨b∈i∨(b∈own s∧s∉gone++ios))→(RMs.flat D.rs=true∨∀b,qgn w F g i (bs++js) b→b<w'.heap.size→C.free w' own' b)∧(PMs.yg D.ps=true∨∀b,qgn w F g i (bs++js) b→b<w'.heap.size→C.free w' own' b):=by
  intro own' hown';rcases hflat with⟨f1,f2⟩|hf
  ·exact⟨.inl f1,.inl f2⟩
  ·have:∀b,qgn w F g i (bs++js) b→b<w'.heap.size→C.free w' own' b:=fun b hb hlt=>by
    refine free own' hown' b hb hlt fun hor=>?_;rcases hb.1 with hFb|hgb|hfr
    ·exact hf b hFb
    ·obtain⟨s,hs,k⟩:=hg b hgb;rcases hor with hq|hq|⟨s',hs',k'⟩
     ·exact .inl hq
     ·exact .inr hq
     ·have:=h.apart s s' b k k';subst this;exact(hs' hs).elim
    ·rcases hor with hq|hq|⟨s',hs',k'⟩
     ·exact .inl hq
     ·exact .inr hq
     ·have:=(h.mine s' b k').2;omega
   exact⟨.inr this,.inr this⟩
 have hboth:∃own':Nat→List Nat,(∀d,o.dst=some d→own' d=bs)∧(∀s∈gone,own' s=[])∧(∀s,s∉us.map (·.s)→own' s=own s)∧(∀s∈ios,(own' s).Nodup∧∀b∈own' s,b∈i++js)∧(∀s∈ios,∀s'∈ios,∀b,b∈own' s→b∈own' s'→s=s')∧
   (∀u∈qeB D.ps y.2 ios,u.a.mentions=[]∧∀X:Sit,X.pn.ls=C.pn.ls∧X.w=w'→X.F=C.free w' own'→qax X u.a (a.tmps.getD u.s undef) (own' u.s))∧qa3 w' (C.free w' own') (qdd D.rs y.1) vs bs:=by
  have mk:∀nw:Nat→List Nat,(∀s∈ios,(nw s).Nodup∧∀b∈nw s,b∈i++js)→∃own':Nat→List Nat,(∀d,o.dst=some d→own' d=bs)∧(∀s∈gone,own' s=[])∧(∀s∈ios,own' s=nw s)∧(∀s,s∉us.map (·.s)→own' s=own s)∧(∀s b,b∈own' s→b∈bs++js∨b∈i∨(b∈own s∧s∉gone++ios)):=by
   intro nw hnw;refine⟨fun s=>if s∈o.dst.toList then bs else if s∈gone then[]else if s∈ios then nw s else own s,fun d hd=>by simp[hd],fun s hs=>?_,fun s hs=>?_,fun s hs=>?_,fun s b hb=>?_⟩
   ·have:s∉o.dst.toList:=fun hm=>hdst' s hm (zac _ hs);simp only[if_neg this,if_pos hs]
   ·have h1:s∉o.dst.toList:=fun hm=>hdst' s hm (zab _ hs);have h2:s∉gone:=fun hm=>hn1.2.2 s hm s hs rfl;simp only[if_neg h1,if_neg h2,if_pos hs]
   ·rw[hslots]at hs;simp only[zaj,not_or]at hs;simp only[if_neg hs.2,if_neg hs.1.1,if_neg hs.1.2]
   ·simp only at hb;split at hb
    ·exact .inl (zac _ hb)
    ·split at hb
     ·cases hb
     ·rename_i h2;split at hb
      ·rename_i h3;rcases zaj.1 ((hnw s h3).2 b hb)with hb|hb
       ·exact .inr (.inl hb)
       ·exact .inl (zab _ hb)
      ·rename_i h3;exact .inr (.inr ⟨hb,fun hm=>(zaj.1 hm).elim h2 h3⟩)
  obtain⟨_,_,nw,v2,v3,v4⟩:=qeq (σ:=σ) (tm:=a.tmps) (own:=own) D.ps hbx hios hn1.2.1 hijn;obtain⟨own',o1,o2,o3,o4,o5⟩:=mk nw v3;have hcv:=conv own' o5
  refine⟨own',o1,o2,o4,fun s hs=>by rw[o3 s hs];exact v3 s hs,fun s hs s' hs' b hb hb'=>v4 s hs s' hs' b (by rw[←o3 s hs];exact hb) (by rw[←o3 s' hs'];exact hb'),fun u hu=>?_,qa3.turn D.rs hcv.1 hres⟩;have hus':u.s∈ios:=by rw[←u1];exact zaR hu
  rw[o3 _ hus'];refine⟨(v2 u hu).2.1,fun X hw hF'=>?_⟩;exact(v2 u hu).2.2 X hw (by rw[hF'];exact hcv.2)
 obtain⟨own',oDst,oGone,oElse,oIos,oAp,u2',hres'⟩:=hboth;refine hK _ _ own' (qfG o a _) ?_;have htmps:∀s,s∉o.dst.toList→(a.put o.dst (qfD vs)).tmps.getD s undef=a.tmps.getD s undef:=fun s hs=>by
  cases hdd:o.dst with
  |none=>rfl
  |some d=>
   rw[hdd]at hs;exact qah _ _ (by simpa using hs)
 have hmem:∀s,s∈us.map (·.s)→(s∈gone∨s∈ios)∨s∈o.dst.toList:=fun s hs=>by
  rw[hslots]at hs;rcases zaj.1 hs with hs|hs
  ·exact .inl (zaj.1 hs)
  ·exact .inr hs
 have slot:∀s,s∈us.map (·.s)→((qt σ s).1<(qt (qk σ us) s).1∨((qt (qk σ us) s).1=(qt σ s).1∧s∉o.dst.toList∧∀b,a.tmps.getD s undef≠ptr b 0))∧qax (sit C (qk σ us) (a.put o.dst (qfD vs)).tmps w' own') (qt (qk σ us) s).2 ((a.put o.dst (qfD vs)).tmps.getD s undef) (own' s)∧(qt (qk σ us) s).2.mentions=[]:=by
  intro s hs;obtain⟨u,hu,rfl⟩:=zaS.1 hs;rw[at1 u hu];refine⟨?_,?_⟩
  ·rcases(hub u hu).1 with h1|h1
   ·rw[if_pos h1];exact .inl (zbb _)
   ·by_cases hbp:u.bump=true
    ·rw[if_pos hbp];exact .inl (zbb _)
    ·rw[if_neg hbp];exact .inr ⟨rfl,h1⟩
  have hu0:=hu;rw[←hus]at hu;rcases zaj.1 hu with hu|hu
  ·rcases zaj.1 hu with hu|hu
   ·obtain⟨s,hs,rfl⟩:=zaS.1 hu;exact⟨trivial,rfl⟩
   ·have hsi:u.s∈ios:=by rw[←u1];exact zaR hu
    refine⟨?_,(u2' u hu).1⟩;rw[htmps _ (fun hm=>hdst' _ hm (zab _ hsi))];exact(u2' u hu).2 _ ⟨rfl,rfl⟩ rfl
  ·unfold qbp at hu;cases hdd:o.dst with
   |none=>rw[hdd]at hu;cases hu
   |some d=>
    rw[hdd]at hu;have hu:u=⟨d,true,qiQ D.rs y.1⟩:=by simpa using hu
    have hdl:d<σ.length:=by have:=(hub u hu0).2;rw[hu]at this;exact this
    subst hu;refine⟨?_,qmQ _ _⟩;show qax _ _ ((a.put (some d) (qfD vs)).tmps.getD d undef) (own' d);rw[oDst d hdd,show(a.put (some d) (qfD vs)).tmps.getD d undef=qfD vs from qbd _ _ (by rw[h.size];exact hdl)];exact qtD (X:=sit C (qk σ us) _ w' own') D.rs hres'
 refine h.update (fun s=>s∈us.map (·.s)) (qO _ _) (by cases o.dst<;>simp[Act.put]) ?_ (fun s hs=>(slot s hs).1.imp id fun q=>⟨q.1,htmps s q.2.1,fun b _ hp=>absurd hp (q.2.2 b)⟩) ?_ ?_ ?_ ?_ (fun s hs=>(slot s hs).2.1) (fun s hs m hm=>by rw[(slot s hs).2.2]at hm;cases hm)
 ·intro s hs;refine⟨at2 s hs,htmps s fun hm=>hs ?_,oElse s hs⟩;rw[hslots];exact zab _ hm
 ·refine hkept.mono fun k hk=>?_;obtain⟨s,hs,hb⟩:=gi k hk;exact⟨s,by rw[hslots];exact zac _ hs,hb⟩
 ·intro s hs;obtain⟨u,hu,rfl⟩:=zaS.1 hs;exact(hub u hu).2
 ·intro s hs;rcases hmem s hs with(hm|hm)|hm
  ·rw[oGone s hm];exact⟨fun b hb=>(by cases hb),zaH⟩
  ·refine⟨fun b hb=>?_,(oIos s hm).1⟩;rcases zaj.1 ((oIos s hm).2 b hb)with hb|hb
   ·obtain⟨s',h1,h2⟩:=gi b (zab _ hb);exact .inr ⟨s',by rw[hslots];exact zac _ h1,h2⟩
   ·obtain⟨h1,h2⟩:=hbl b (zab _ hb);rcases h1 with hgb|hfr
    ·obtain⟨s',hs',k⟩:=hg b hgb;exact .inr ⟨s',by rw[hslots];exact zac _ hs',k⟩
    ·exact .inl ⟨hfr,h2⟩
  ·rw[oDst s (by simpa using hm)];refine⟨fun b hb=>?_,hbn⟩;obtain⟨h1,h2⟩:=hbl b (zac _ hb);rcases h1 with hgb|hfr
   ·obtain⟨s',hs',k⟩:=hg b hgb;exact .inr ⟨s',by rw[hslots];exact zac _ hs',k⟩
   ·exact .inl ⟨hfr,h2⟩
 ·intro s s' b hs hs' hb hb';have sub:∀s,s∈us.map (·.s)→s∉o.dst.toList→b∈own' s→b∈i++js∧s∈ios:=by
   intro s hs hnd hb;rcases hmem s hs with(hm|hm)|hm
   ·rw[oGone s hm]at hb;cases hb
   ·exact⟨(oIos s hm).2 b hb,hm⟩
   ·exact(hnd hm).elim
  have cross:∀s s',s∈o.dst.toList→s'∈us.map (·.s)→s'∉o.dst.toList→b∈own' s→b∈own' s'→False:=by
   intro s s' hd hs' hnd hb hb';rw[oDst s (by simpa using hd)]at hb;obtain⟨k1,k2⟩:=sub s' hs' hnd hb';rcases zaj.1 k1 with k1|k1
   ·exact hbi b (zac _ hb) k1
   ·exact hbjn'.2.2 b hb b k1 rfl
  by_cases h1:s∈o.dst.toList<;>by_cases h2:s'∈o.dst.toList
  ·have e1:o.dst=some s:=by simpa using h1
   have e2:o.dst=some s':=by simpa using h2
   rw[e1]at e2;injection e2
  ·exact(cross s s' h1 hs' h2 hb hb').elim
  ·exact(cross s' s h2 hs h1 hb' hb).elim
  ·exact oAp s (sub s hs h1 hb).2 s' (sub s' hs' h2 hb').2 b hb hb'
end
end Go.Vi
namespace Go.Vi
open Go.RowKit
section
variable {C:Ctx}{E:Env}{σ:St}{tm:Array Value}{a:Act}{w w':World}{own:Nat→List Nat}{o:Oper}{p:qg3} [Tabbed E C]
theorem qac.expose (h:qac C σ tm w own) {s:Nat}{c:BC}{u:Ty}{x:u.den}{f:Bool}(hs:(qt σ s).2=.box c) (hsz:c.size=u.size) (hg:c.get 0 u=some (x,f)):
  ∃own',qac C (qX σ ⟨s,true,.view u x 0⟩) tm w own'∧(∀b,C.free w own b→C.free w own' b)∧(∀s',∀b∈own' s',b∈own s')∧
   ∃(b:Nat) (cs:List Value),tm.getD s undef=.pointer (some ⟨b,0,none⟩)∧C.free w own' b∧b<w.heap.size∧qfL w ⟨b,0,none⟩ cs∧Rep w (C.free w own') u x cs:=by
 have hsl:s<σ.length:=qfv (by rw[hs];simp);have hr:=h.rep s hsl;rw[hs]at hr;obtain⟨b,cs,bs',te,h1,h2,h3,h4⟩:=hr;let own':Nat→List Nat:=fun s'=>if s'=s then[]else own s'
 have sub:∀s',∀b∈own' s',b∈own s':=fun s' b hb=>by
  simp only[own']at hb;split at hb
  ·cases hb
  ·exact hb
 have mono:∀b,C.free w own b→C.free w own' b:=fun b hb=>⟨hb.1,hb.2.1,fun s' hs'=>hb.2.2 s' (sub s' b hs')⟩;have new:∀b∈own s,C.free w own' b:=fun b hb=>⟨.inr (h.mine s b hb).1,(h.mine s b hb).2,fun s' hs'=>by
  have:=h.apart s s' b hb (sub s' b hs');subst this;simp[own']at hs'⟩
 have hb0:b∈own s:=by rw[h4];exact zai
 obtain⟨q1,q2,_⟩:=h3.get hg;have hlen:=h3.length;rw[zbe,zas (by omega)]at q2;have hrep:Rep w (C.free w own') u x cs:=q2.keep fun b' hb' hlt=>⟨by
  rcases hb' with hb'|hb'
  ·exact mono b' hb'
  ·exact new b' (by rw[h4];exact zae _ hb'),hlt,rfl⟩
 have hcl:qfL w ⟨b,0,none⟩ cs:=by
  have:=qf8 (off:=0) (n:=cs.length) h2;rwa [zbe,za5]at this
 have hlt:b<w.heap.size:=(h.mine s b hb0).2;have eS:qt (qX σ ⟨s,true,.view u x 0⟩) s=((qt σ s).1+1,.view u x 0):=qS σ ⟨s,true,_⟩ hsl;refine⟨own',?_,mono,sub,b,cs,h1,new b hb0,hlt,hcl,hrep⟩;refine h.update (fun x=>x=s) (qal _ _) rfl (fun s' hs'=>⟨qu σ ⟨s,true,.view u x 0⟩ hs',rfl,by simp[own',hs']⟩) (fun s' hs'=>.inl (by subst hs';rw[eS];exact zbb _)) (qbc.refl _ _) (fun s' hs'=>by subst hs';exact hsl) (fun s' hs'=>?_) (fun x y b hx hy _ _=>hx.trans hy.symm) (fun s' hs'=>?_) (fun s' hs' m hm=>?_)
 ·subst hs';simp only[own',if_true];exact⟨fun b hb=>(by cases hb),zaH⟩
 ·subst hs';rw[eS];simp only[own',if_true];exact⟨rfl,⟨b,0,none⟩,cs,by rw[h1];rfl,new b hb0,hlt,hcl,hrep⟩
 ·subst hs';rw[eS]at hm;cases hm
def qiZ (w:World) (F:Nat→Prop):(us:List Ty)→denL us→List Value→Prop
 |[],_,vs=>vs=[]
 |u::us,x,vs=>∃(ad:Addr) (cs:List Value) (r:List Value),vs=.pointer (some ad)::r∧F ad.block∧ad.block<w.heap.size∧qfL w ad cs∧Rep w F u x.1 cs∧qiZ w F us x.2 r
theorem qiZ.keep {w w':World}{F F':Nat→Prop}(hF:∀b,F b→b<w.heap.size→F' b∧b<w'.heap.size∧w'.heap[b]? =w.heap[b]?):(us:List Ty)→{x:denL us}→{vs:List Value}→qiZ w F us x vs→qiZ w' F' us x vs
 |[],_,_,h=>h
 |u::us,_,_,⟨ad,cs,r,h1,h2,h3,h4,h5,h6⟩=>by
  obtain⟨g1,g2,g3⟩:=hF _ h2 h3;exact⟨ad,cs,r,h1,g1,g2,fun j z hj=>by rw[←h4 j z hj];exact World.cell?_of_block (by rw[qam];exact g3),h5.keep hF,h6.keep hF us⟩
theorem qkH {P:Program}{w:World}{F:Nat→Prop}:(ts us:List Ty)→{x:denL ts}→{y:denL us}→{vs cs:List Value}→qe9 w F ts x vs→qiZ w F us y cs→qaq P w F (valPs ts++rdPs us) (qpP ts us x y) (vs++cs) [] []
 |[],[],_,_,vs,cs,h1,h2=>by
  have h1:vs=[]:=h1;have h2:cs=[]:=h2;subst h1;subst h2;exact⟨rfl,rfl,rfl⟩
 |[],u::us,_,_,vs,cs,h1,⟨ad,ds,r,k1,k2,k3,k4,k5,k6⟩=>by
  have h1:vs=[]:=h1;subst h1;exact⟨ad,ds,r,k1,k2,k3,k4,k5,qkH [] us (x:=()) (vs:=[]) rfl k6⟩
 |t::ts,us,_,_,vs,cs,⟨v,r,h1,h2,h3⟩,h4=>by
  subst h1;exact⟨v,r++cs,rfl,h2,qkH ts us h3 h4⟩
theorem ql1:(us:List Ty)→(ops:List Operand)→{q:denL us×List U}→(qq6 us ops).run (qt σ)=some q→(qg2 ops).Nodup→{τ:St}→{own:Nat→List Nat}→qac C τ a.tmps w own→(∀s∈qg2 ops,qt τ s=qt σ s)→
  ∃own',qac C (qk τ q.2) a.tmps w own'∧(∀b,C.free w own b→C.free w own' b)∧qiZ w (C.free w own') us q.1 (ops.map a.eval)∧∀u∈q.2,u.s∈qg2 ops
 |[],[],q,he,_,τ,own,h,_=>by
  have:=Q.yc he;subst this;exact⟨own,h,fun _ hb=>hb,rfl,fun u hu=>by cases hu⟩
 |[],_::_,_,he,_,_,_,_,_=>by cases he
 |_::_,[],_,he,_,_,_,_,_=>by cases he
 |u::us,.const _::_,_,he,_,_,_,_,_=>by cases he
 |u::us,.func _::_,_,he,_,_,_,_,_=>by cases he
 |u::us,.global _::_,_,he,_,_,_,_,_=>by cases he
 |u::us,.tmp s::r,q,he,hn,τ,own,h,hsame=>by
  simp only[qq6,Q.yd]at he;obtain⟨q1,h1,he⟩:=Q.yb he;have hn:=zax.1 hn;have hs0:=hsame s zai;split at he
  ·rename_i c hc;split at he;case isFalse=>cases he
   rename_i hsz;split at he;case h_2=>cases he
   rename_i x f hg;have:=Q.yc he;subst this;obtain⟨own1,k1,k2,k3,b,cs,k4,k5,k6,k7,k8⟩:=h.expose (by rw[hs0];exact hc) hsz hg;obtain⟨own2,g1,g2,g3,g4⟩:=ql1 us r h1 hn.2 k1 (fun s' hs'=>by
    rw[qu τ ⟨s,true,.view u x 0⟩ (show s'≠s from fun e=>hn.1 (e▸hs'))];exact hsame s' (zae _ hs'))
   refine⟨own2,g1,fun b hb=>g2 b (k2 b hb),⟨⟨b,0,none⟩,cs,_,?_,g2 b k5,k6,k7,k8.keep fun b hb hlt=>⟨g2 b hb,hlt,rfl⟩,g3⟩,fun u' hu'=>?_⟩
   ·simp only[zaZ];congr 1
   ·rcases zam.1 hu' with rfl|hu'
    ·exact zai
    ·exact zae _ (g4 u' hu')
  ·rename_i t y off hv;split at he;case h_2=>cases he
   rename_i x hsub;have:=Q.yc he;subst this;obtain⟨own2,g1,g2,g3,g4⟩:=ql1 us r h1 hn.2 h (fun s' hs'=>hsame s' (zae _ hs'));have hsl:s<τ.length:=qfv (by rw[hs0,hv];simp);have hr:=h.rep s hsl;rw[hs0,hv]at hr;obtain⟨_,ad,cs,m1,m2,m3,m4,m5⟩:=hr;obtain⟨n1,n2⟩:=m5.sub hsub;refine⟨own2,g1,g2,⟨ad.add off,(cs.drop off).take u.size,_,?_,?_,?_,qpf m4,n2.keep fun b hb hlt=>⟨g2 b hb,hlt,rfl⟩,g3⟩,fun u' hu'=>zae _ (g4 u' hu')⟩
   ·simp only[zaZ];congr 1
   ·rw[qam];exact g2 _ m2
   ·rw[qam];exact m3
  ·cases he
theorem qoz (hF:qgd E C.P) (h:qac C σ a.tmps w own) {fn:Fn}{first caps:Array Operand}(hop:o.op=.makeFunc fn first caps) {f:Eff}
  (he:(qec E p o).run (qt σ)=some f) (hd:∀u∈f.upd,u.s<σ.length):qcW C o a w (qk σ f.upd):=by
 unfold qec at he;rw[hop]at he;simp only at he;split at he;case h_2=>cases he
 rename_i g;split at he;case isFalse=>cases he
 rename_i hfirst;unfold cloE at he;split at he;case h_2=>cases he
 rename_i D hD;split at he;case h_2=>cases he
 rename_i ts us vs hp1 hp2;split at he;case isFalse=>cases he
 rename_i hty;obtain⟨q,h1,he⟩:=Q.yb he;split at he;case isFalse=>cases he
 rename_i hcond;simp only[zad]at hcond;have:=Q.yc he;subst this;have hnd:=qdT hcond.1;obtain⟨own',k1,k2,k3,k4⟩:=ql1 us caps.toList h1 hnd h (fun _ _=>rfl);have hok:=hF g D hD;obtain⟨ps,rs,sem⟩:=D;obtain⟨e1,e2⟩:=hty;simp only at e1 e2 hp1 hp2;subst e1;subst e2;have hrun:(execOp a.eval o).run C.P w=.ok (.value (.func (.func g) #[] (caps.map a.eval))) w:=by
  unfold execOp;rw[hop];have hf0:first= #[]:=by simpa using hfirst
  subst hf0;simp only[Instr.makeFunc,Sem.run_bind,Sem.run_pure,Result.andThen_ok,Array.map_empty]
 have hrep:qn7 C.P w (C.free w own') ts vs (fun x:denL ts=>qhI (fun y:RMs.den (valRs vs)×PMs.ioDen (valPs ts++rdPs us)=>qwc vs y.1) (sem (qpP ts us x q.1))) (.func (.func g) #[] (caps.map a.eval)):=by
  refine⟨g,caps.map a.eval,rfl,hok.1,fun w' F' x y as hkp hvals hy=>?_⟩;simp only[qdR,zaB]at hy;obtain⟨z,hz,rfl⟩:=hy;have hcaps:qiZ w' F' us q.1 (caps.map a.eval).toList:=by
   have:=k3.keep hkp us;simpa using this
  have hpar:=qkH (P:=C.P) ts us hvals hcaps;have:=hok.2 w' F' (qpP ts us x q.1) z (as++(caps.map a.eval).toList) [] [] ((qac.tabsE (E:=E) k1).keep hkp) hpar (fun b hb=>by cases hb) zaH hz;have e:(as++(caps.map a.eval).toList).toArray=as.toArray++caps.map a.eval:=by simp
  rw[e]at this;refine Calls.mono this ?_;rintro e w'' ⟨v',rfl,rs,bs,js,rfl,_,_,hres,_,hk⟩;obtain⟨m1,rfl⟩:=qkz vs hres;refine⟨rs,rfl,m1.mono vs fun b hb=>?_,hk.mono fun b hb=>by cases hb⟩;rcases hb.1 with h|h|h
  ·exact .inl h
  ·cases h
  ·exact .inr h
 have hd2:∀u∈qbp o (.fnv ts vs (fun x:denL ts=>qhI (fun y:RMs.den (valRs vs)×PMs.ioDen (valPs ts++rdPs us)=>qwc vs y.1) (sem (qpP ts us x q.1)))),u.s<(qk σ q.2).length:=fun u hu=>by
  rw[qO];exact hd u (zab _ hu)
 obtain⟨own2,hst⟩:=k1.dst0 (o:=o) (av:= .fnv ts vs (fun x:denL ts=>qhI (fun y:RMs.den (valRs vs)×PMs.ioDen (valPs ts++rdPs us)=>qwc vs y.1) (sem (qpP ts us x q.1)))) (v:= .func (.func g) #[] (caps.map a.eval)) hd2 ⟨rfl,hrep⟩ (fun m hm=>by cases hm);intro K Q1 hK;unfold Oper.wp;rw[hrun];rw[qbC]at hK;exact hK _ _ own2 (qfG o a _) hst
end
end Go.Vi
namespace Go.Vi
open Go.RowKit
section
variable {C:Ctx}{E:Env}{σ:St}{tm:Array Value}{a:Act}{w w':World}{own:Nat→List Nat}{o:Oper}{p:qg3} [Tabbed E C]
theorem qpw (h:qac C σ a.tmps w own) {x:Operand}{o1:Op1}{tid:Nat}(hp:qbV (sit C σ a.tmps w own) p) (hx:(opd E p tid x).run (qt σ)=some o1) {M:MV}(he:(qqh o1).run (qt σ)=some M):
  M.s<σ.length∧(qt σ M.s).2=.mp M.k M.v M.xs∧a.tmps.getD M.s undef=a.eval x∧qf9 w (C.free w own) M.k M.v M.xs (a.eval x) (own M.s):=by
 have ho:=qaz h hp hx;have lt:∀s,(qt σ s).2=.mp M.k M.v M.xs→s<σ.length:=fun s hs=>by
  apply Classical.byContradiction;intro hn;have:qt σ s=(0,.undef):=by simp[qt,List.getD,zaD (Nat.le_of_not_lt hn)]
  rw[this]at hs;cases hs
 unfold qqh at he;split at he
 ·rename_i s k v xs h1 h2;have:=Q.yc he;subst this;have hgs:(qt σ s).2=.mp k v xs∨∃s' v' w' a',(qt σ s).2=.grd s' v' w' a':=by
   unfold opd at hx;split at hx
   ·rename_i t;rw[Q.yd]at hx;have:=Q.yc hx;subst this;simp only at h1 h2;injection h1 with h1;subst h1;generalize hg:(qt σ t).2=g at h2;cases g with
    |grd s' v' w' a'=>exact .inr ⟨s',v',w',a',rfl⟩
    |_=>left;unfold qbk at h2;exact h2
   ·split at hx
    ·have:=Q.yc hx;subst this;cases h1
    ·cases hx
   ·have:=Q.yc hx;subst this;cases h1
   ·split at hx
    ·have:=Q.yc hx;subst this;cases h1
    ·cases hx
  unfold qbB at ho;rw[h1,h2]at ho;obtain⟨e1,e2,e3⟩:=ho;rcases hgs with hgs|⟨s',v',w',a',hgs⟩
  ·exact⟨lt s hgs,hgs,e1.symm,e3⟩
  ·have hat:=h.at_ s;rw[hgs]at hat;have hn:own s=[]:=hat.1;obtain⟨b,_,hb,_⟩:=e3;have hb:own s=[b]:=hb;rw[hn]at hb;cases hb
 ·rename_i s v0 h2;rw[Q.yd]at he;split at he
  ·rename_i hv;split at he
   ·rename_i k v xs hm;have:=Q.yc he;subst this;have hu:=ho.unowned (by rw[h2];rfl);rw[h2]at hu;have e1:a.tmps.getD s undef=a.eval x:=hu.2 hv;have hat:=h.at_ s;rw[hm,e1]at hat;exact⟨lt s hm,hm,e1,hat⟩
   ·cases he
  ·cases he
 ·cases he
theorem qo1 (hE:qa2 E C.P) (h:qac C σ a.tmps w own) {t:Nat}{r:Option Operand}(hop:o.op=.makeMap t r) {f:Eff}
  (he:(qec E p o).run (qt σ)=some f) (hd:∀u∈f.upd,u.s<σ.length):qcW C o a w (qk σ f.upd):=by
 unfold qec at he;rw[hop]at he;simp only at he;split at he;case isFalse=>cases he
 rename_i hr;cases r with
 |some _=>cases hr
 |none=>
  unfold qqE at he;split at he
  ·rename_i k v hty;have:=qI he;subst this;obtain⟨kn,vn,d,i,z,h1,h2,h3,_⟩:=hE.map t k v hty;refine qz (v:= .map (some w.heap.size)) (w':=w.alloc (.map #[] 0)) ?_ (h.dst (bs:=[w.heap.size]) (qbc.alloc _ w _) hd (fun b hb=>?_) (by simp) ?_ (fun m hm=>by cases hm))
   ·unfold execOp;rw[hop];simp[Instr.makeMap]
   ·simp at hb;subst hb;exact⟨zay _,by simp⟩
   ·refine⟨w.heap.size,rfl,rfl,#[],0,?_,rfl,qdZ h3,fun i j e e' _ hi _=>by simp at hi,fun i e hi=>by simp at hi,⟨(by intro p hp;cases hp),zaH⟩,fun i e p hi _=>by simp at hi⟩;exact(MapKept.heap_alloc w _).1
  ·cases he
theorem qjG {k:Ty}{β:Type}{R:β→Value→Prop}{xs:List (k.den×β)}{b:Nat}(hat:qpC w k R xs b) {t kn vn:Nat}{d:TypeDesc}{i:TypeInfo}{z:Value}{P:Program}(e1:P.underlying t=some (.map kn vn)) (e2:P.underlying kn=some d) (e3:qhU k d=true) (e4:P.info? vn=some i) (e5:i.zero=some z) {dd:β}(e6:R dd z) (x:k.den):
  ∃v,R (qkQ xs x dd) v∧∀cok,(Instr.lookup t (.map (some b)) (keyV k x) cok).run P w=.ok (if cok then .tuple #[v,.bool (qpH xs x)]else v) w:=by
 obtain⟨es,clock,r3,r4,r5⟩:=hat.look e3 x;rcases r5 with⟨s1,s2,s3⟩|⟨e,qq,s1,s2,s3,s4,s5,s6,s7⟩
 ·refine⟨z,by rw[s2];exact e6,fun cok=>?_⟩;simp[Instr.lookup,run_underlying e1,MapKept.run_getObj_map r3,MapKept.run_checkKey e2 (qc1 e3 x),MapKept.run_findKey e2 s3,zeroValue,typeInfo,e4,e5,s1]
 ·refine⟨e.val,by rw[s2];exact s6,fun cok=>?_⟩;simp[Instr.lookup,run_underlying e1,MapKept.run_getObj_map r3,MapKept.run_checkKey e2 (qc1 e3 x),MapKept.run_findKey e2 s7,s1]
theorem qmS {k:Ty}{β:Type}{R:β→Value→Prop}{xs:List (k.den×β)}{b:Nat}(hat:qne w k R xs b) {t kn vn:Nat}{d:TypeDesc}{i:TypeInfo}{z:Value}{P:Program}(e1:P.underlying t=some (.map kn vn)) (e2:P.underlying kn=some d) (e3:qhU k d=true) (e4:P.info? vn=some i) (e5:i.zero=some z) {dd:β}(e6:R dd z) (x:k.den):
  ∃v,R (qkQ xs x dd) v∧∀cok,(Instr.lookup t (.map (some b)) (keyV k x) cok).run P w=.ok (if cok then .tuple #[v,.bool (qpH xs x)]else v) w:=by
 obtain⟨ys,hp,hat⟩:=hat;have hn:(ys.map (·.1)).Nodup:=by
  obtain⟨_,_,_,_,_,_,_,hk,_⟩:=hat;exact hk.2
 rw[←qst hp ((hp.map _).nodup_iff.1 hn),←qtB hp];exact qjG hat e1 e2 e3 e4 e5 e6 x
theorem qqx (hE:qa2 E C.P) (h:qac C σ a.tmps w own) (hp:qbV (sit C σ a.tmps w own) p) {t:Nat}{m k:Operand}{ok:Bool}(hop:o.op=.lookup t m k ok) {f:Eff}
  (he:(qec E p o).run (qt σ)=some f) (hd:∀u∈f.upd,u.s<σ.length):qcW C o a w (qk σ f.upd):=by
 unfold qec at he;rw[hop]at he;simp only at he;obtain⟨m1,g1,he⟩:=Q.yb he;obtain⟨k1,g2,he⟩:=Q.yb he;have fin:∀(kt vt:Ty) (xs:List (kt.den×vt.den)) (x:kt.den),(∃v,qau w (C.free w own) vt (qkQ xs x vt.dflt) v∧∀cok,(Instr.lookup t (a.eval m) (a.eval k) cok).run C.P w=.ok (if cok then .tuple #[v,.bool (qpH xs x)]else v) w)→
   ((match ok with
   |false=>okE (qbp o (.val vt (qkQ xs x vt.dflt)))
   |true=>okE (qbp o (.tup [.val vt (qkQ xs x vt.dflt),.val .bool (qpH xs x)]))).run (qt σ)=some f)→qcW C o a w (qk σ f.upd):=fun kt vt xs x ⟨v,hv,hrun⟩ he=>by
  have hex:(execOp a.eval o).run C.P w=.ok (.value (if ok then .tuple #[v,.bool (qpH xs x)]else v)) w:=by
   unfold execOp;rw[hop];simp only[Sem.run_bind,hrun ok,Result.andThen_ok];rfl
  split at he
  ·have:=qI he;subst this;exact qaZ h hex hd hv
  ·have:=qI he;subst this;refine qz hex (h.dst0 hd ?_ (fun m hm=>by cases hm));exact⟨[v,.bool (qpH xs x)],rfl,v,_,[],[],rfl,rfl,⟨rfl,hv⟩,_,[],[],[],rfl,rfl,⟨rfl,qau.ofBool _ _ _⟩,rfl,rfl⟩
 unfold qtc at he;split at he
 ·rename_i kt vt xs hma;obtain⟨q,g4,he⟩:=Q.yb he;split at he;case isFalse=>cases he
  rename_i hty;obtain⟨kn,vn,d,i,z,e1,e2,e3,e4,e5,e6⟩:=hE.map t kt vt hty;have hkv:=qqO h (qdZ e3) (qaz h hp g2) g4;have hm:=(qaz h hp g1).unowned (by rw[hma];rfl);rw[hma]at hm;refine fin kt vt xs q.1 ?_ he;obtain⟨⟨u,hu,hat⟩,_,hna⟩:=hm.2;have hu:a.eval m=u:=by
   have:=hna rfl;cases hv:a.eval m with
   |agg cs=>exact absurd hv (this cs)
   |_=>rw[hv]at hu;simpa[Value.cells]using hu
  rw[hkv,hu];rcases hat with⟨rfl,rfl⟩|⟨b,rfl,hb1,hb2,hat⟩
  ·refine⟨z,by rw[qf0];exact e6 _ _,fun cok=>?_⟩;have hm0:qpH ([]:List (kt.den×vt.den)) q.1=false:=by rw[qf4];rfl
   simp[Instr.lookup,run_underlying e1,MapKept.run_checkKey e2 (qc1 e3 q.1),MapKept.run_findKey e2 (show Instr.findNow d (keyV kt q.1) [] 0=some none from rfl),zeroValue,typeInfo,e4,e5,hm0]
  ·exact qmS hat e1 e2 e3 e4 e5 (e6 _ _) q.1
 ·obtain⟨M,g3,he⟩:=Q.yb he;obtain⟨q,g4,he⟩:=Q.yb he;split at he;case isFalse=>cases he
  rename_i hty;obtain⟨kn,vn,d,i,z,e1,e2,e3,e4,e5,e6⟩:=hE.map t M.k M.v hty;obtain⟨hlt,hgs,htm,b,r1,r2,hat⟩:=qpw h hp g1 g3;have hkv:=qqO h (qdZ e3) (qaz h hp g2) g4;refine fin M.k M.v M.xs q.1 ?_ he;rw[hkv,r1];exact qjG hat e1 e2 e3 e4 e5 (e6 _ _) q.1
theorem qiG (hE:qa2 E C.P) (h:qac C σ a.tmps w own) (hp:qbV (sit C σ a.tmps w own) p) {t:Nat}{m k x:Operand}(hop:o.op=.mapUpdate t m k x∨o.op=.insert t m k x) {f:Eff}
  (he:(qec E p o).run (qt σ)=some f) (hd:∀u∈f.upd,u.s<σ.length):qcW C o a w (qk σ f.upd):=by
 replace he:(if o.dst.isSome=true then Q.fail else(opd E p 0 m).bind fun m=>(opd E p 0 k).bind fun k=>(opd E p (E.etid t) x).bind fun x=>qir E t m k x).run (qt σ)=some f:=by
  rcases hop with hop|hop<;>(unfold qec at he;rw[hop]at he;exact he)
 split at he
 ·cases he
 rename_i hdst;obtain⟨m1,g1,he⟩:=Q.yb he;obtain⟨k1,g2,he⟩:=Q.yb he;obtain⟨x1,g2',he⟩:=Q.yb he;unfold qir at he;obtain⟨M,g3,he⟩:=Q.yb he;obtain⟨q,g4,he⟩:=Q.yb he;obtain⟨r,g5,he⟩:=Q.yb he;split at he;case isFalse=>cases he
 rename_i hcond;obtain⟨hty,hns⟩:=hcond;obtain⟨fz,g6,he⟩:=Q.yb he;have:=qI he;subst this;obtain⟨kn,vn,d,i,z,e1,e2,e3,e4,e5,e6⟩:=hE.map t M.k M.v hty;obtain⟨hlt,hgs,htm,hrep⟩:=qpw h hp g1 g3;have hkv:=qqO h (qdZ e3) (qaz h hp g2) g4;have hxv:=qc8 h (qaz h hp g2') g5;obtain⟨σ1,own1,hst,hσ1,hl1,hown1,hgs1,hrx,hfr⟩:∃σ1 own1,qac C σ1 a.tmps w own1∧σ1=qk σ fz∧σ1.length=σ.length∧own1 M.s=own M.s∧(qt σ1 M.s).2=.mp M.k M.v M.xs∧qau w (C.free w own1) M.v r.1 (a.eval x)∧(∀b,C.free w own b→C.free w own1 b):=by
  by_cases hf:M.v.flat=true
  ·rw[if_pos hf]at g6;have:=Q.yc g6;subst this;exact⟨σ,own,h,rfl,rfl,rfl,hgs,hxv.flat hf,fun _ hb=>hb⟩
  ·rw[if_neg hf]at g6;obtain⟨own',q1,q2,q3,q4⟩:=qdg r.2 h g6;exact⟨qk σ fz,own',q1,rfl,qO _ _,(q3 _ hns).1,by rw[(q3 _ hns).2];exact hgs,hxv.mono fun b hb _=>q4 b hb,fun b hb=>q4 b (.inl hb)⟩
 rw[qbC,←hσ1];have hrep1:qf9 w (C.free w own1) M.k M.v M.xs (a.eval m) (own1 M.s):=by
  have:=hst.at_ M.s;rw[hgs1]at this;have h2:a.tmps.getD M.s undef=a.eval m:=htm;rw[h2]at this;exact this
 obtain⟨b',r1,r2,hat⟩:=hrep1;obtain⟨es,clock,r3,r4,r5⟩:=hat.look e3 q.1;obtain⟨es',clock',r3',r4',r5',i1,i2,iky,r6'⟩:=hat;have hqk:M.k.keyOk q.1:=(qc8 h (qaz h hp g2) g4).keyOk (qdZ e3);have hee:es'=es∧clock'=clock:=by rw[r3]at r3';injection r3' with r3';injection r3' with q1 q2;exact⟨q1.symm,q2.symm⟩
 obtain⟨rfl,rfl⟩:=hee;have htm':a.tmps.getD M.s undef=.map (some b'):=by rw[htm];exact r1
 have put0:∀w2,qac C (qk σ1 [⟨M.s,false,.mp M.k M.v (qnd M.xs q.1 r.1)⟩]) a.tmps w2 own1→∃own',qac C (qk σ1 [⟨M.s,false,.mp M.k M.v (qnd M.xs q.1 r.1)⟩]) (a.put o.dst undef).tmps w2 own':=fun w2 hh=>by
  have:o.dst=none:=by cases ho:o.dst<;>simp[ho]at hdst⊢
  rw[this];exact⟨own1,hh⟩
 rcases r5 with⟨s1,s2,s3⟩|⟨e,qq,s1,s2,s3,s4,s5,s6,s7⟩
 ·have hn:¬qfa M.xs q.1<M.xs.length:=by rw[qf4]at s1;simpa using s1
  have hput:qnd M.xs q.1 r.1=M.xs++[(q.1,r.1)]:=by rw[qis,if_neg hn]
  refine qgC (w':= { w with heap:=w.heap.setIfInBounds b' (.map (es'.push { key:=keyV M.k q.1,val:=a.eval x,born:=clock' }) (clock'+1)) }) ?_ (put0 _ ?_)
  ·unfold execOp;rcases hop with hop|hop<;>rw[hop]<;>simp[r1,hkv,Instr.mapUpdate,run_underlying e1,MapKept.run_getObj_map r3,MapKept.run_checkKey e2 (qc1 e3 q.1),MapKept.run_findKey e2 s3,MapKept.run_setObj_map _ r3]
  ·rw[hput];refine hst.mapTurn (by rw[hl1];exact hlt) r2 htm' r3 r5' (by simp[r4]) (fun i j e1 e2 hij hi hj=>?_) (fun i e1 hi=>?_) ⟨fun pp hpp=>?_,by rw[←hput];exact qpB iky.2 _ _⟩ (fun j ee pp hj hpp=>?_)
   ·rw[Array.getElem?_push]at hi hj;have hjs:j≤es'.size:=by
     split at hj
     ·omega
     ·have:=(zav.1 hj).1;omega
    rw[if_neg (by omega)]at hi;split at hj
    ·injection hj with hj;subst hj;exact i2 i e1 hi
    ·exact i1 i j e1 e2 hij hi hj
   ·rw[Array.getElem?_push]at hi;split at hi
    ·injection hi with hi;subst hi;exact zbb _
    ·exact Nat.lt_succ_of_lt (i2 i e1 hi)
   ·rcases zaj.1 hpp with hpp|hpp
    ·exact iky.1 pp hpp
    ·rw[zat.1 hpp];exact hqk
   ·rw[Array.getElem?_push]at hj;split at hj
    ·rename_i hjs;injection hj with hj;subst hj;rw[hjs,r4,zaL (zay _)]at hpp;simp at hpp;subst hpp;exact⟨rfl,hrx⟩
    ·rename_i hjs;have hjl:j<es'.size:=(zav.1 hj).1;rw[zaP (by omega)]at hpp;exact r6' j ee pp hj hpp
 ·have hn:qfa M.xs q.1<M.xs.length:=by rw[qf4]at s1;simpa using s1
  have hput:qnd M.xs q.1 r.1=M.xs.set (qfa M.xs q.1) (qq.1,r.1):=by rw[qis,if_pos hn,qro,s4]
  refine qgC (w':= { w with heap:=w.heap.setIfInBounds b' (.map (es'.modify (qfa M.xs q.1) fun e=> { e with key:=keyV M.k q.1,val:=a.eval x }) clock') }) ?_ (put0 _ ?_)
  ·unfold execOp;rcases hop with hop|hop<;>rw[hop]<;>simp[r1,hkv,Instr.mapUpdate,run_underlying e1,MapKept.run_getObj_map r3,MapKept.run_checkKey e2 (qc1 e3 q.1),MapKept.run_findKey e2 s7,s3,s5,MapKept.run_keyThatStays (qc1 e3 q.1),MapKept.run_setObj_map _ r3]
  ·rw[hput];refine hst.mapTurn (by rw[hl1];exact hlt) r2 htm' r3 r5' (by simp[r4]) (fun i j e1 e2 hij hi hj=>?_) (fun i e1 hi=>?_) ⟨fun pp hpp=>?_,by rw[←hput];exact qpB iky.2 _ _⟩ (fun j ee pp hj hpp=>?_)
   ·obtain⟨f1,hi2,rfl⟩:=qin hi;obtain⟨f2,hj2,rfl⟩:=qin hj;have:=i1 i j f1 f2 hij hi2 hj2;split<;>split<;>exact this
   ·obtain⟨f1,hi2,rfl⟩:=qin hi;have:=i2 i f1 hi2;split<;>exact this
   ·rcases List.mem_or_eq_of_mem_set hpp with hpp|hpp
    ·exact iky.1 pp hpp
    ·rw[hpp];exact iky.1 qq (zaU s4)
   ·obtain⟨e0,hj2,rfl⟩:=qin hj;by_cases hij:qfa M.xs q.1=j
    ·subst hij;rw[List.getElem?_set_self hn]at hpp;injection hpp with hpp;subst hpp;rw[s3]at hj2;injection hj2 with hj2;subst hj2;rw[if_pos rfl];obtain⟨t1,t3⟩:=r6' _ _ _ s3 s4;exact⟨by rw[←t1];exact s5.symm,hrx⟩
    ·rw[if_neg hij];rw[List.getElem?_set_ne hij]at hpp;exact r6' j e0 pp hj2 hpp
theorem qoS (es:Array MapEntry):qcp es #[]=es:=by
 unfold qcp;exact Array.filter_eq_self.2 fun x _=>by simp
theorem qrU (hE:qa2 E C.P) (h:qac C σ a.tmps w own) (hp:qbV (sit C σ a.tmps w own) p) {t:Nat}{x:Operand}(hop:o.op=.range t x) {f:Eff}
  (he:(qec E p o).run (qt σ)=some f) (hd:∀u∈f.upd,u.s<σ.length):qcW C o a w (qk σ f.upd):=by
 unfold qec at he;rw[hop]at he;simp only at he;obtain⟨x1,g1,he⟩:=Q.yb he;split at he;case h_2=>cases he
 rename_i kt vt xs hxa;split at he;case isFalse=>cases he
 rename_i hty;have:=qI he;subst this;obtain⟨kn,vn,d,i,z,e1,e2,e3,e4,e5,e6⟩:=hE.map t kt vt hty;have hm:=(qaz h hp g1).unowned (by rw[hxa];rfl);rw[hxa]at hm;obtain⟨⟨u,hu,hat⟩,_,hna⟩:=hm.2;have hu:a.eval x=u:=by
  have:=hna rfl;cases hv:a.eval x with
  |agg cs=>exact absurd hv (this cs)
  |_=>rw[hv]at hu;simpa[Value.cells]using hu
 have fin:∀ob,(execOp a.eval o).run C.P w=.ok (.value (ptr w.heap.size 0)) (w.alloc ob)→qeK (w.alloc ob) (after C σ a.tmps w (w.alloc ob) own [w.heap.size]).F kt vt xs none w.heap.size→qcW C o a w (qk σ (qbp o (.itr kt vt xs none))):=fun ob hx hi=>by
  refine qz hx (h.dst (bs:=[w.heap.size]) (qbc.alloc _ w _) hd (fun b hb=>?_) (by simp) ⟨w.heap.size,rfl,rfl,hi⟩ (fun m hm=>by cases hm));simp at hb;subst hb;exact⟨zay _,by simp⟩
 rcases hat with⟨rfl,rfl⟩|⟨b,rfl,hb1,hb2,ys,hperm,es,clock,r1,r2,r3,r4,r5,rky,r6⟩
 ·refine fin (.mapIter none 0 #[] 0) ?_ (.inl ⟨0,#[],0,heap_alloc_new w _,rfl,rfl⟩);unfold execOp;rw[hop];simp[hu,Instr.range,run_underlying e1,ptr]
 ·have hF:∀ob b,C.free w own b→b<w.heap.size→(after C σ a.tmps w (w.alloc ob) own [w.heap.size]).F b∧b<(w.alloc ob).heap.size∧(w.alloc ob).heap[b]? =w.heap[b]? :=fun ob b hb hlt=>
   ⟨⟨.inl hb,by simp;omega,by simp;omega⟩,by simp;omega,qdc w _ b hlt⟩
  have r1:w.heap[b]? =some (.map es clock):=r1;obtain⟨q1,q2,q3⟩:=hF (.mapIter (some b) clock #[] clock) b hb1 hb2;refine fin (.mapIter (some b) clock #[] clock) ?_ (.inr ⟨b,es,clock,clock,clock,#[],heap_alloc_new w _,q1,q2,q3.trans r1,r4,r5,zay _,zay _,⟨ys,hperm,by rw[qoS];exact r2,fun i e p hi hp=>?_⟩,fun p hp=>by cases hp⟩)
  ·unfold execOp;rw[hop];simp[hu,Instr.range,run_underlying e1,MapKept.run_getObj_map r1,ptr]
  ·rw[qoS]at hi;obtain⟨s1,s2⟩:=r6 i e p hi hp;exact⟨s1,r3,rky.1 p (zaU hp),s2.1.keep (hF _),s2.2⟩
theorem qrW {es:Array MapEntry}{e:MapEntry}(hinc:∀(i j:Nat) (e e':MapEntry),i<j→es[i]? =some e→es[j]? =some e'→e.born<e'.born) (he:e∈es.toList):es.find? (fun x=>x.born==e.born)=some e:=by
 cases hf:es.find? (fun x=>x.born==e.born)with
 |none=>
  have:=Array.find?_eq_none.1 hf e (Array.mem_toList_iff.1 he);simp at this
 |some e'=>
  have h1:=Array.find?_some hf;have h2:=Array.mem_of_find?_eq_some hf;obtain⟨i,hi,hi2⟩:=zaw he;obtain⟨j,hj,hj2⟩:=zaw (Array.mem_toList_iff.2 h2);have e1:es[i]? =some e:=by rw[←Array.getElem?_toList,zaa hi,hi2]
  have e2:es[j]? =some e':=by rw[←Array.getElem?_toList,zaa hj,hj2]
  have h1:e'.born=e.born:=by simpa using h1
  rcases Nat.lt_trichotomy i j with q|q|q
  ·have:=hinc i j _ _ q e1 e2;omega
  ·subst q;rw[e1]at e2;exact e2.symm▸rfl
  ·have:=hinc j i _ _ q e2 e1;omega
theorem qsd (hE:qa2 E C.P) (h:qac C σ a.tmps w own) (hp:qbV (sit C σ a.tmps w own) p) {x:Operand}(hop:o.op=.entry x) {f:Eff}
  (he:(qec E p o).run (qt σ)=some f) (hd:∀u∈f.upd,u.s<σ.length):qcW C o a w (qk σ f.upd):=by
 unfold qec at he;rw[hop]at he;simp only at he;obtain⟨x1,g1,he⟩:=Q.yb he;split at he;case h_2=>cases he
 rename_i kt vt rem q hxa;have:=qI he;subst this;have ho:=qaz h hp g1;have hb:∃bs,qax (sit C σ a.tmps w own) (.itr kt vt rem (some q)) (a.eval x) bs:=by
  obtain⟨os,ov,oa⟩:=x1;simp only at hxa;subst hxa;cases os with
  |none=>exact⟨_,ho⟩
  |some s=>exact⟨_,ho.2.2⟩
 obtain⟨_,b,h1,h2,h3⟩:=hb;rcases h3 with⟨_,_,_,_,_,hc⟩|⟨bm,es,clock,since,c0,seen,r1,r2,r3,r4,r5,r6,r7,r8,r9,r11⟩
 ·cases hc
 obtain⟨e,s1,s2,s2',s3,sk,sk2,s4⟩:=r11 q rfl;have r1:w.heap[b]? =some (.mapIter (some bm) since seen c0):=r1;have r4:w.heap[bm]? =some (.map es clock):=r4;have hrun:(execOp a.eval o).run C.P w=.ok (.value (.tuple #[e.key,e.val])) w:=by
  unfold execOp;rw[hop];have hf:=qrW r5 s1;have s2:seen.back?=some e.born:=s2;simp only[Sem.run_bind,Instr.entry,h1,ptr,getObj,Sem.run,r1,r4,Result.andThen,s2,s2',bne_self_eq_false,za0,if_false,hf];rfl
 refine qz hrun (h.dst0 hd ?_ (fun m hm=>by cases hm));refine⟨[e.key,e.val],rfl,_,_,[],[],rfl,rfl,⟨rfl,?_⟩,_,[],[],[],rfl,rfl,⟨rfl,s4⟩,rfl,rfl⟩;rw[s3];exact qau.ofKey sk sk2
end
end Go.Vi
