import Derived.Test.YtghccmfcndnljaaGreatFns
import Derived.Test.YtghccmfcndnljaaGreatViXE
import Derived.Test.YtghccmfcndnljaaGreatViXF
set_option linter.unusedVariables false
set_option linter.unusedSimpArgs false
set_option linter.unnecessarySimpa false
set_option linter.unusedSectionVars false
set_option linter.unusedSimpArgs false
set_option linter.unusedVariables false
set_option maxRecDepth 100000
set_option maxHeartbeats 0
open Bool renaming and_eq_true → zad, and_self → zak, false_and → za7, not_eq_true' → za8, not_false → zaY, not_true → zaT, or_true → za4, true_and → zbd
open Int renaming toNat_natCast → zaJ
open List renaming append_assoc → zaC, drop_eq_getElem_cons → zaO, drop_of_length_le → za1, getD_eq_getElem?_getD → zaz, getElem?_append_right → zaL, getElem?_eq_getElem → zaa, getElem?_take → zal, getElem_mem → zau, getElem_of_mem → zaw, length_append → zag, length_cons → zba, length_drop → zap, length_take → zaf, map_append → za3, map_cons → zaZ, mem_append → zaj, mem_cons → zam, mem_cons_of_mem → zae, mem_cons_self → zai, mem_flatMap → za2, mem_map → zaS, mem_map_of_mem → zaR, mem_of_getElem? → zaU, mem_singleton → zat, nodup_append → zah, nodup_cons → zax, pairwise_iff_getElem → zaQ, take_append_drop → zaK, take_append_of_le_length → zaG, take_length → za5, take_of_length_le → zas
open Nat renaming le_refl → zay, lt_irrefl → zaW, zero_le → za6
open Option renaming some → zbg
open Prod renaming mk → zbh
namespace Go.Proofs.YtghccmfcndnljaaGreat
open Go.Vi
noncomputable section
theorem qiC (N:Nat) (x y:Int):qaO N (x,(y,()))=some ((ic x y,()),()):=by
 simp only[qaO,qJ,qbz,quI,decide_eq_true_eq,ic];split
 ·rfl
 ·split<;>rfl
theorem qrv (N:Nat) (a b:List UInt8):qcE N (a,(b,()))=some ((Lib.compareBytes a b,()),()):=by
 simp only[qcE,qa4,qJ,qg,qj,cond_true]
theorem qrq (N:Nat) (a b:qa):qda N (a,(b,()))=some ((vc a b,()),()):=by
 simp only[qda,qJ,qiC,qrv,qg,qj,cond_true,qaC,quI,za8,decide_eq_false_iff_not,vc];split
 ·rfl
 ·split<;>rfl
theorem qvV (N:Nat) (a b:qa):qbg N (a,(b,()))=some ((decide (vc a b<0),()),()):=by
 simp only[qbg,qJ,qaC,qbz,qus];have h1:=qbE a.1 b.1;have h2:=qbE a.2.1 b.2.1;by_cases e1:a.1=b.1
 ·have f1:ic a.1 b.1=0:=by omega
  by_cases e2:a.2.1=b.2.1
  ·have f2:ic a.2.1 b.2.1=0:=by omega
   have:vc a b=Lib.compareBytes a.2.2.1 b.2.2.1:=by simp[vc,f1,f2]
   simp[e1,e2,this]
  ·have f2:ic a.2.1 b.2.1≠0:=by omega
   have h3:vc a b=ic a.2.1 b.2.1:=by simp[vc,f1,f2]
   have h4:a.2.1<b.2.1↔vc a b<0:=by omega
   simp[e1,e2,h4]
 ·have f1:ic a.1 b.1≠0:=by omega
  have h3:vc a b=ic a.1 b.1:=by simp[vc,f1]
  have h4:a.1<b.1↔vc a b<0:=by omega
  simp[e1,h4]
theorem qb7 (N:Nat) (xs ys:qba) (hN:xs.length<N) (hB:N≤1099511627776):qw N (xs,(ys,()))=some ((qaa xs ys,()),()):=by
 simp only[qw,qJ,qiC,qrq,qg,qj,cond_true,Bool.and_true];refine qfs (S:=Int×Unit) (R:=(Int×Unit)×Unit) (fun p=>xs.length-p.1.toNat) (fun p=>∃i:Nat,p.1=(i:Int)∧i≤xs.length∧i≤ys.length∧qaa (xs.drop i) (ys.drop i)=qaa xs ys) (fun _=>((qaa xs ys,()),())) ?_ N _ ⟨0,rfl,za6 _,za6 _,rfl⟩ (by simp;omega);rintro ih ⟨_,_⟩ ⟨i,rfl,hx,hy,he⟩ hih;simp only[zaJ]at hih⊢
 by_cases h:i<xs.length∧i<ys.length
 ·obtain⟨h1,h2⟩:=h;rw[qV (by rw[qbz,qln,qp,qp];simp;omega),qai h1,qai h2,qY _ h1,qY _ h2];simp only[zak,cond_true];rw[zaO h1,zaO h2,qaa]at he;by_cases hv:vc xs[i] ys[i]=0
  ·rw[if_neg (fun h=>h hv)]at he;rw[qE (by rw[qaC,hv];rfl),qan (by omega)];exact hih _ ⟨i+1,rfl,h1,h2,he⟩ (by simp only[zaJ];omega)
  ·rw[if_pos hv]at he;rw[qV (by rw[qaC];simp[hv]),he]
 ·rw[qE (by rw[qbz,qln,qp,qp];simp;omega)];rw[qnB xs ys i h hx hy]at he;rw[qp,qp,he]
theorem qcH (N:Nat) (xs ys:qba) (hN:xs.length<N) (hB:N≤1099511627776):qM N (xs,(ys,()))=some ((qaa xs ys,()),()):=by
 simp only[qM,qJ,qvV,qg,qj,cond_true,Bool.and_true];refine qfs (S:=Int×Unit) (R:=(Int×Unit)×Unit) (fun p=>xs.length-p.1.toNat) (fun p=>∃i:Nat,p.1=(i:Int)∧i≤xs.length∧i≤ys.length∧qaa (xs.drop i) (ys.drop i)=qaa xs ys) (fun _=>((qaa xs ys,()),())) ?_ N _ ⟨0,rfl,za6 _,za6 _,rfl⟩ (by simp;omega);rintro ih ⟨_,_⟩ ⟨i,rfl,hx,hy,he⟩ hih;simp only[zaJ]at hih⊢
 by_cases h:i<xs.length∧i<ys.length
 ·obtain⟨h1,h2⟩:=h;rw[qbK h1,qbK h2,qai h1,qai h2,qY _ h1,qY _ h2];simp only[zak,cond_true];rw[zaO h1,zaO h2,qaa]at he;have hs:=qtr xs[i] ys[i];rcases qu6 xs[i] ys[i]with hv|hv|hv
  ·rw[if_pos (by omega)]at he;rw[qV (by rw[hv];rfl),←he,hv]
  ·rw[if_neg (fun h=>h hv)]at he;rw[qE (by rw[hv];rfl),qE (by rw[hs,hv];rfl),qan (by omega)];exact hih _ ⟨i+1,rfl,h1,h2,he⟩ (by simp only[zaJ];omega)
  ·rw[if_pos (by omega)]at he;rw[qE (by rw[hv];rfl),qV (by rw[hs,hv];rfl),←he,hv]
 ·rw[qE (by
   rw[qbz,qbz,qp,qp];simp only[Bool.and_eq_false_iff,decide_eq_false_iff_not];omega)]
  rw[qnB xs ys i h hx hy]at he;rw[qp,qp,←he];have:=qbE (xs.length:Int) (ys.length:Int);rcases this with⟨h1,h2⟩|⟨h1,h2⟩|⟨h1,h2⟩
  ·rw[qV (by rw[qbz];simp;omega),h2]
  ·rw[qE (by rw[qbz];simp;omega),qE (by rw[qbz];simp;omega),h2]
  ·rw[qE (by rw[qbz];simp;omega),qV (by rw[qbz];simp;omega),h2]
theorem qtx (N:Nat) (pk:List Int) (row:qba) (hN:pk.length<N) (hb:pk.length≤1099511627776):
  qaf (S:=((List qa)×(Int×Unit))) (R:=(((List qa)×Unit)×Unit)) N (fun ih0=>(fun p1=>(bif (ltI p1.2.1 (qs pk))then(bif (inB p1.2.1 (qs pk))then(qW ((leI 0 (qh pk p1.2.1 0))&&(ltI (qh pk p1.2.1 0) (qs row))) (fun y2=>(bif (bif y2 then(inB (qh pk p1.2.1 0) (qs row))else true)then(qW (bif y2 then(qh row (qh pk p1.2.1 0) (0,(0,(([]:List UInt8),()))))else(0,(0,(([]:List UInt8),())))) (fun y3=>(bif (qcm (qs p1.1) (qs ([y3]:List qa)) 32)then(ih0 ((qeT p1.1 ([y3]:List qa)),((qQ .i64 p1.2.1 1),())))else none)))else none)))else none)else(some ((p1.1,()),()))))) (([]:List qa),(0,()))=some ((qgv pk row,()),()):=by
 simp only[qJ];refine qdh (S:=((List qa)×(Int×Unit))) (fun i=>(qgv (pk.take i) row,((i:Int),()))) pk.length _ (by simp[qgv]) (fun i hi ih=>?_) (fun ih=>?_) hN
 ·have e1:qgv (pk.take (i+1)) row=qgv (pk.take i) row++[qsI row pk[i]]:=by unfold qgv;rw[qb2 hi,za3];rfl
  have e2:(bif (leI 0 pk[i]&&ltI pk[i] (qs row))then qh row pk[i] (0,(0,(([]:List UInt8),())))else(0,(0,(([]:List UInt8),()))))=qsI row pk[i]:=by
   unfold qsI;by_cases h:0≤pk[i]∧pk[i]<(row.length:Int)
   ·rw[dif_pos h,qV (by rw[qbQ,qbz,qp];simp;exact h)];obtain⟨k,hk⟩:∃k:Nat,pk[i]=(k:Int):=⟨pk[i].toNat,by omega⟩;have hk':k<row.length:=by omega
    simp only[hk,zaJ];exact qY _ hk'
   ·rw[dif_neg h,qE (by rw[qbQ,qbz,qp];simp;omega)]
  have e3:(bif (leI 0 pk[i]&&ltI pk[i] (qs row))then inB pk[i] (qs row)else true)=true:=by
   cases hc:(leI 0 pk[i]&&ltI pk[i] (qs row))with
   |false=>rfl
   |true=>
    rw[qbQ,qbz,qp]at hc;rw[cond_true,qfR,qp];simpa using hc
  simp only;rw[qV (qbK hi),qai hi,cond_true,qY _ hi,e3,cond_true,e2,qV (qcx (by rw[qqP,zaf];simp;omega)),qan (by omega),qbi,e1]
 ·simp only;rw[qE (qbs (zaW _)),za5]
theorem qtI (N:Nat) (t:qD) (row:qba) (hN:t.2.2.1.length<N) (hB:N≤1099511627776):qb9 N (t,(row,()))=some ((qgv t.2.2.1 row,()),()):=qtx N t.2.2.1 row hN (by omega)
theorem qvg (N:Nat) (t:qD) (row:qba) (hN:t.2.2.1.length<N) (hB:N≤1099511627776):qcX N (t,(row,()))=some ((qgv t.2.2.1 row,()),()):=by
 have h:qc7 N (row,(t.2.2.1,()))=some ((qgv t.2.2.1 row,()),()):=qtx N t.2.2.1 row hN (by omega);simp only[qcX,h,qg,qj,cond_true]
def qsj (v:qa):Int:=
 if v.1=0 then(if v.2.1≠0∨v.2.2.1≠[]then 3 else 0)
 else if v.1=1∨v.1=2 then(if v.2.2.1≠[]then 3 else if(v.1=2∧v.2.1≠0∧v.2.1≠1)∨v.2.1< -1000000000000∨1000000000000<v.2.1 then 1 else 0)
 else if v.1=3 then(if v.2.1≠0 then 3 else if 24<(v.2.2.1.length:Int)then 2 else 0)
 else 7
theorem qqr (N:Nat) (v:qa):qcZ N (v,())=some ((qsj v,()),()):=by
 obtain⟨k,n,s,_⟩:=v;simp only[qcZ,qJ,qvj];simp only[qaQ,qaC,qbz,qmC,qp,qsj,quI,condB,Bool.or_eq_true,zad,za8,decide_eq_true_eq,decide_eq_false_iff_not,Bool.and_eq_false_iff,Bool.or_eq_false_iff,Bool.not_eq_false'];grind
theorem qle (N:Nat) (v:qa):qbw N (v,())=some ((qsj v,()),()):=by
 obtain⟨k,n,s,_⟩:=v;simp only[qbw,qJ,qvj];simp only[qaQ,qaC,qbz,qmC,qp,qsj,quI,condB,Bool.or_eq_true,zad,za8,decide_eq_true_eq,decide_eq_false_iff_not,Bool.and_eq_false_iff,Bool.or_eq_false_iff,Bool.not_eq_false'];have hs:s=[]→(s.length:Int)=0:=by rintro rfl;rfl
 have hk:k<0∨k=0∨k=1∨k=2∨k=3∨3<k:=by omega
 rcases hk with hk|hk|hk|hk|hk|hk<;>grind
def qcR:List qa→Int
 |[]=>0
 |v::r=>if qsj v≠0 then qsj v else qcR r
def qfb (r:List qa):Int:=if 12<r.length then 2 else qcR r
theorem qjH: {r:List qa}→qcR r=0→∀v∈r,qsj v=0
 |[],_,_,h=>by cases h
 |v::r,h,u,hu=>by
  simp only[qcR]at h;split at h
  ·rename_i h0;exact absurd h h0
  ·rename_i h0;rcases zam.1 hu with rfl|hu
   ·exact Classical.byContradiction h0
   ·exact qjH h u hu
theorem qmd (N:Nat) (r:List qa) (hN:20<N):qbr N (r,())=some ((qfb r,()),()):=by
 simp only[qbr,qJ,qfb];by_cases h:12<r.length
 ·rw[if_pos h,qV (by rw[qbz,qp];simp;omega)]
 ·rw[if_neg h,qE (by rw[qbz,qp];simp;omega)];refine qfs (S:=Int×Unit) (R:=(Int×Unit)×Unit) (fun p=>r.length-p.1.toNat) (fun p=>∃i:Nat,p.1=(i:Int)∧i≤r.length) (fun p=>((qcR (r.drop p.1.toNat),()),())) ?_ N _ ⟨0,rfl,za6 _⟩ (by simp;omega);rintro ih ⟨_,_⟩ ⟨i,rfl,h2⟩ hih;simp only[zaJ]at hih⊢
  by_cases hi:i<r.length
  ·have hg:qh r (i:Int) (0,(0,([],())))=r[i]:=qot (zaa hi);rw[qV (qbK hi),qV (qai hi)];simp only[hg,qqr,qg,qj,cond_true,qaC];rw[qnh hi];by_cases he:qsj r[i]=0
   ·rw[qE (by simp[he]),qan (by omega),hih _ ⟨i+1,rfl,by omega⟩ (by simp only[zaJ];omega)];simp only[zaJ,qcR,he,ne_eq,not_true_eq_false,if_false]
   ·rw[qV (by simp[he])];simp only[qcR,ne_eq,he,not_false_eq_true,if_true]
  ·have hi':i=r.length:=by omega
   rw[qE (qbs hi)];subst hi';simp only[List.drop_length,qcR]
theorem qiB (N:Nat) (r:List qa) (hN:20<N):qbt N (r,())=some ((qfb r,()),()):=by
 simp only[qbt,qJ,qfb];by_cases h:12<r.length
 ·rw[if_pos h,qV (by rw[qbz,qp];simp;omega)]
 ·rw[if_neg h,qE (by rw[qbz,qp];simp;omega)];refine qfs (S:=Int×Unit) (R:=(Int×Unit)×Unit) (fun p=>r.length-p.1.toNat) (fun p=>∃i:Nat,p.1=(i:Int)∧i≤r.length) (fun p=>((qcR (r.drop p.1.toNat),()),())) ?_ N _ ⟨0,rfl,za6 _⟩ (by simp;omega);rintro ih ⟨_,_⟩ ⟨i,rfl,h2⟩ hih;simp only[zaJ]at hih⊢
  by_cases hi:i<r.length
  ·have hg:qh r (i:Int) (0,(0,([],())))=r[i]:=qot (zaa hi);rw[qV (qbK hi),qV (qai hi)];simp only[hg,qle,qg,qj,cond_true,qaC];rw[qnh hi];by_cases he:qsj r[i]=0
   ·rw[qE (by simp[he]),qan (by omega),hih _ ⟨i+1,rfl,by omega⟩ (by simp only[zaJ];omega)];simp only[zaJ,qcR,he,ne_eq,not_true_eq_false,if_false]
   ·rw[qV (by simp[he])];simp only[qcR,ne_eq,he,not_false_eq_true,if_true]
  ·have hi':i=r.length:=by omega
   rw[qE (qbs hi)];subst hi';simp only[List.drop_length,qcR]
theorem qd6 (N:Nat) (xs ys:qba) (hN:xs.length<N) (hb:xs.length≤1099511627776):qF N (xs,(ys,()))=some ((decide (xs=ys),()),()):=by
 simp only[qF];by_cases hl:xs.length=ys.length
 ·rw[qE (by rw[qaC,qp,qp,hl];simp)];refine qtF (ne:=fun (a b:qa)=> !((eqI a.1 b.1)&&((eqI a.2.1 b.2.1)&&(eqS a.2.2.1 b.2.2.1)))) (fun a b=>?_) xs ys (0,(0,(([]:List UInt8),()))) hl hb hN;obtain⟨a1,a2,a3,⟨⟩⟩:=a;obtain⟨b1,b2,b3,⟨⟩⟩:=b;simp only[qmC,qaQ,zbh.injEq,and_true,Bool.decide_and]
 ·rw[qV (by rw[qaC,qp,qp];simp;omega)];have:xs≠ys:=fun h=>hl (by rw[h]);simp[this]
end
end Go.Proofs.YtghccmfcndnljaaGreat
namespace Go.Proofs.YtghccmfcndnljaaGreat
open Go.Vi
noncomputable section
theorem qsx (N:Nat) (xs:List Int) (c:Int) (hN:xs.length<N) (hb:N≤1099511627776):∃k:Int,qbX N (xs,(c,()))=some ((k,()),())∧(0≤k↔c∈xs):=by
 have key:qbX N (xs,(c,()))=match qae (fun i=>if xs[i]? =some c then some (i:Int)else none) xs.length with
   |some e=>some ((e,()),())
   |none=>some ((-1,()),()):=by
  simp only[qbX];refine(qaW (S:=Int×Unit) (fun i=>((i:Int),())) xs.length (fun i=>if xs[i]? =some c then some (i:Int)else none) (fun e=>some ((e,()),())) (some ((-1,()),())) rfl (fun i hi _ ih=>?_) (fun _ ih=>?_) hN).trans ?_
  ·simp only[qbK hi,qai hi,cond_true,qY _ hi,qan (show i<4611686018427387904 by omega),qaQ,zaa hi,zbg.injEq];by_cases h:xs[i]=c
   ·rw[if_pos h,decide_eq_true h.symm,cond_true]
   ·rw[if_neg h,decide_eq_false (fun e=>h e.symm),cond_false]
  ·simp only;rw[qE (qbs (zaW _))]
  ·cases qae (fun i=>if xs[i]? =some c then some (i:Int)else none) xs.length<;>rfl
 rw[key];cases hf:qae (fun i=>if xs[i]? =some c then some (i:Int)else none) xs.length with
 |none=>
  refine⟨-1,rfl,⟨fun h=>by omega,fun h=>?_⟩⟩;obtain⟨i,hi,he⟩:=zaw h;have:=qbe hf i hi;simp only[zaa hi,he,if_true]at this;cases this
 |some e=>
  obtain⟨i,h1,h2,_⟩:=qa7 hf;split at h2
  ·rename_i h3;injection h2 with h2;subst h2;exact⟨_,rfl,⟨fun _=>zaU h3,fun _=>by omega⟩⟩
  ·cases h2
theorem qpa (N:Nat) (xs:List Int) (c:Int) (hN:xs.length<N) (hb:N≤1099511627776):qa5 N (xs,(c,()))=some ((decide (c∈xs),()),()):=by
 obtain⟨k,h1,h2⟩:=qsx N xs c hN hb;simp only[qa5,h1,qg,qj,cond_true,qdX];by_cases h:c∈xs
 ·rw[decide_eq_true h,decide_eq_true (h2.2 h)]
 ·rw[decide_eq_false h,decide_eq_false (fun q=>h (h2.1 q))]
def qhE (ks:List Int):List (Int×Bool):=ks.foldl (fun m k=>qnd m k true) []
theorem qj7 (ks:List Int) (k:Int):qhE (ks++[k])=qnd (qhE ks) k true:=by simp[qhE]
theorem qtn (ks:List Int) (k:Int):qkQ (qhE ks) k false=decide (k∈ks):=by
 have:∀l:List Int,qkQ (qhE l.reverse) k false=decide (k∈l.reverse):=by
  intro l;induction l with
  |nil=>simp[qhE,qum]
  |cons a l ih=>
   rw[List.reverse_cons,qj7,qth,ih];by_cases h:a=k
   ·rw[if_pos h];simp[h]
   ·rw[if_neg h];have:¬k=a:=fun e=>h e.symm;simp[this]
 have:=this ks.reverse;rwa [List.reverse_reverse]at this
theorem quY {α β:Type}(xs:List (α×β)) (k:α) (v:β):1≤(qnd xs k v).length∧xs.length≤(qnd xs k v).length∧(qnd xs k v).length≤xs.length+1:=by
 induction xs with
 |nil=>rw[qqK];simp
 |cons p xs ih=>
  rw[qoW];split
  ·simp
  ·simp only[zba];omega
theorem qtN (ks:List Int):(qhE ks).length≤ks.length∧((qhE ks).length=0↔ks=[]):=by
 have:∀l:List Int,(qhE l.reverse).length≤l.length∧((qhE l.reverse).length=0↔l=[]):=by
  intro l;induction l with
  |nil=>simp[qhE]
  |cons a l ih=>
   rw[List.reverse_cons,qj7];have:=quY (qhE l.reverse) a true;simp only[zba,reduceCtorEq,iff_false];omega
 have:=this ks.reverse;rw[List.reverse_reverse,List.length_reverse]at this;simpa using this
def pkG (n:Nat) (pk:List Int) (i:Nat):Option Int:=if pk.getD i 0<0∨(n:Int)≤pk.getD i 0∨(0<i∧pk.getD i 0≤pk.getD (i-1) 0)then some 3 else none
def qoG (n:Nat) (cs:List Int) (i:Nat):Option Int:=if cs.getD i 0<0∨(n:Int)≤cs.getD i 0∨cs.getD i 0∈cs.take i then some 1 else none
def qlB (t:qD) (cs:List Int):Int:=
 if 6<t.2.1.length then 2 else match qae (pkG t.2.1.length t.2.2.1) t.2.2.1.length with
 |some e=>e
 |none=>if t.2.2.1.length=0 then 3 else match qae (qoG t.2.1.length cs) cs.length with
  |some e=>e
  |none=>if cs.length=0 then 1 else 0
theorem qjY (N:Nat) (t:qD) (cs:List Int) (h1:t.2.2.1.length<N) (h2:cs.length<N) (hB:N≤1099511627776):qaU N (t,(cs,()))=some ((qlB t cs,()),()):=by
 simp only[qaU,qJ,qlB];by_cases h6:6<t.2.1.length
 ·rw[if_pos h6,qV (by rw[qbz,qp];simp;omega)]
 rw[if_neg h6,qE (by rw[qbz,qp];simp;omega)];have inner:(qaf (S:=(Int×Unit)) (R:=((Int×Unit)×Unit)) N (fun ih2=>(fun p3=>(bif (ltI p3.1 (qs cs))then(bif (inB p3.1 (qs cs))then(bif (((!(!((ltI (qh cs p3.1 0) 0)||(leI (qs t.2.1) (qh cs p3.1 0)))))||(inS 0 p3.1 (qs cs)))&&((!(!((ltI (qh cs p3.1 0) 0)||(leI (qs t.2.1) (qh cs p3.1 0)))))||(qx (qa5 N ((qbq cs 0 p3.1),((qh cs p3.1 0),()))))))then(bif (((ltI (qh cs p3.1 0) 0)||(leI (qs t.2.1) (qh cs p3.1 0)))||(qi (qa5 N ((qbq cs 0 p3.1),((qh cs p3.1 0),()))) ((false,()),())).1.1)then(some ((1,()),()))else(ih2 ((qQ .i64 p3.1 1),())))else none)else none)else(bif (eqI (qs cs) 0)then(some ((1,()),()))else(some ((0,()),())))))) (0,()))=match qae (qoG t.2.1.length cs) cs.length with
   |some e=>some ((e,()),())
   |none=>some (((if cs.length=0 then 1 else 0),()),()):=by
  refine(qaW (S:=Int×Unit) (fun i=>((i:Int),())) cs.length (qoG t.2.1.length cs) (fun e=>some ((e,()),())) (some (((if cs.length=0 then 1 else 0),()),())) rfl (fun i hi _ ih=>?_) (fun _ ih=>?_) h2).trans ?_
  ·have hd:cs.getD i 0=cs[i]:=by rw[zaz,zaa hi];rfl
   have hs:inS 0 (i:Int) (qs cs)=true:=by rw[qsr,qp];simp;omega
   simp only[qbK hi,qai hi,cond_true,qY _ hi,qan (show i<4611686018427387904 by omega),qqV,qpa N (cs.take i) _ (by rw[zaf];omega) hB,qg,qj,hs,za4,zak];simp only[qoG,hd,qbD,qdX,qp];by_cases q:cs[i]<0∨(t.2.1.length:Int)≤cs[i]∨cs[i]∈cs.take i
   ·rw[if_pos q,qV (by simpa[or_assoc,and_assoc]using q)]
   ·rw[if_neg q,qE (by simpa[or_assoc,and_assoc]using q)]
  ·simp only;rw[qE (qbs (zaW _)),qaQ,qp];by_cases q:cs.length=0
   ·rw[if_pos q,qV (by simp[q])]
   ·rw[if_neg q,qE (decide_eq_false (by omega))]
  ·cases qae (qoG t.2.1.length cs) cs.length<;>rfl
 rw[inner];refine(qaW (S:=Int×Unit) (fun i=>((i:Int),())) t.2.2.1.length (pkG t.2.1.length t.2.2.1) (fun e=>some ((e,()),())) (some (((if t.2.2.1.length=0 then 3 else match qae (qoG t.2.1.length cs) cs.length with
  |some e=>e
  |none=>if cs.length=0 then 1 else 0),()),())) rfl (fun i hi _ ih=>?_) (fun _ ih=>?_) h1).trans ?_
 ·have hd:t.2.2.1.getD i 0=t.2.2.1[i]:=by rw[zaz,zaa hi];rfl
  simp only[qbK hi,qai hi,cond_true,qY _ hi,qan (show i<4611686018427387904 by omega)];simp only[pkG,hd,qbD,qdX,qp];cases i with
  |zero=>
   simp only[zaW,false_and,or_false,Int.ofNat_zero,Int.lt_irrefl,decide_false,za7,zaY,Bool.true_or,cond_true,Bool.or_false];by_cases q:t.2.2.1[0]<0∨(t.2.1.length:Int)≤t.2.2.1[0]
   ·rw[if_pos q,qV (by simpa using q)]
   ·rw[if_neg q,qE (by simpa using q)]
  |succ i=>
   have hi':i<t.2.2.1.length:=by omega
   have s1:qR .i64 ((i+1:Nat):Int) 1=(i:Int):=by rw[qas (by omega) (by omega)];omega
   have hd':t.2.2.1.getD i 0=t.2.2.1[i]:=by rw[zaz,zaa hi'];rfl
   simp only[s1,qY _ hi',show inB (i:Int) (t.2.2.1.length:Int)=true from qpY hi',za4,cond_true,Nat.add_sub_cancel,hd',Nat.succ_pos,true_and];by_cases q:t.2.2.1[i+1]<0∨(t.2.1.length:Int)≤t.2.2.1[i+1]∨t.2.2.1[i+1]≤t.2.2.1[i]
   ·rw[if_pos q,qV (by
     have:(0:Int)<((i+1:Nat):Int):=by omega
     simp only[decide_eq_true this,zbd];simpa[or_assoc,and_assoc]using q)]
   ·rw[if_neg q,qE (by
     have:(0:Int)<((i+1:Nat):Int):=by omega
     simp only[decide_eq_true this,zbd];simpa[or_assoc,and_assoc]using q)]
 ·simp only;rw[qE (qbs (zaW _)),qaQ,qp];by_cases q:t.2.2.1.length=0
  ·rw[if_pos q,qV (by simp[q])]
  ·rw[if_neg q,qE (decide_eq_false (by omega))];cases qae (qoG t.2.1.length cs) cs.length<;>rfl
 ·cases qae (pkG t.2.1.length t.2.2.1) t.2.2.1.length<;>rfl
def qos (pk:List Int) (i:Nat):Int:=if i=0 then -1 else pk.getD (i-1) 0
theorem qmp (N:Nat) (t:qD) (cs:List Int) (h1:t.2.2.1.length<N) (h2:cs.length<N) (hB:N≤1099511627776):qa1 N (t,(cs,()))=some ((qlB t cs,()),()):=by
 simp only[qa1,qJ,qlB];by_cases h6:6<t.2.1.length
 ·rw[if_pos h6,qV (by rw[qbz,qp];simp;omega)]
 rw[if_neg h6,qE (by rw[qbz,qp];simp;omega)];have inner:(qaf (S:=((List (Int×Bool))×(Int×Unit))) (R:=((Int×Unit)×Unit)) N (fun ih2=>(fun p3=>(bif (ltI p3.2.1 (qs cs))then(bif (inB p3.2.1 (qs cs))then(bif (((ltI (qh cs p3.2.1 0) 0)||(leI (qs t.2.1) (qh cs p3.2.1 0)))||(qkQ p3.1 (qh cs p3.2.1 0) false))then(some ((1,()),()))else(ih2 ((qnd p3.1 (qh cs p3.2.1 0) true),((qQ .i64 p3.2.1 1),()))))else none)else(bif (leI (qs (qrI p3.1)) 1099511627776)then(bif (eqI (qs (qrI p3.1)) 0)then(some ((1,()),()))else(some ((0,()),())))else none)))) (([]:List (Int×Bool)),(0,())))=match qae (qoG t.2.1.length cs) cs.length with
   |some e=>some ((e,()),())
   |none=>some (((if cs.length=0 then 1 else 0),()),()):=by
  refine(qaW (S:=List (Int×Bool)×(Int×Unit)) (fun i=>(qhE (cs.take i),((i:Int),()))) cs.length (qoG t.2.1.length cs) (fun e=>some ((e,()),())) (some (((if cs.length=0 then 1 else 0),()),())) rfl (fun i hi _ ih=>?_) (fun _ ih=>?_) h2).trans ?_
  ·have hd:cs.getD i 0=cs[i]:=by rw[zaz,zaa hi];rfl
   have e1:qhE (cs.take (i+1))=qnd (qhE (cs.take i)) cs[i] true:=by rw[qb2 hi,qj7]
   simp only[qbK hi,qai hi,cond_true,qY _ hi,qan (show i<4611686018427387904 by omega),qtn,e1];simp only[qoG,hd,qbD,qdX,qp];by_cases q:cs[i]<0∨(t.2.1.length:Int)≤cs[i]∨cs[i]∈cs.take i
   ·rw[if_pos q,qV (by simpa[or_assoc,and_assoc]using q)]
   ·rw[if_neg q,qE (by simpa[or_assoc,and_assoc]using q)]
  ·simp only;have hl:=qtN cs;have hp:(qrI (qhE cs)).length=(qhE cs).length:=(qoI _).length_eq;rw[qE (qbs (zaW _)),za5,qp,hp,qV (by rw[qdX];simp;omega),qaQ];by_cases q:cs.length=0
   ·rw[if_pos q,qV (by
     have:=hl.2.2 (List.length_eq_zero_iff.1 q);simp[this])]
   ·rw[if_neg q,qE (by
     have:¬(qhE cs).length=0:=fun e=>q (by rw[hl.2.1 e];rfl);exact decide_eq_false (by omega))]
  ·cases qae (qoG t.2.1.length cs) cs.length<;>rfl
 rw[inner];refine(qaW (S:=Int×(Int×Unit)) (fun i=>(qos t.2.2.1 i,((i:Int),()))) t.2.2.1.length (pkG t.2.1.length t.2.2.1) (fun e=>some ((e,()),())) (some (((if t.2.2.1.length=0 then 3 else match qae (qoG t.2.1.length cs) cs.length with
  |some e=>e
  |none=>if cs.length=0 then 1 else 0),()),())) rfl (fun i hi hf ih=>?_) (fun hf ih=>?_) h1).trans ?_
 ·have hd:t.2.2.1.getD i 0=t.2.2.1[i]:=by rw[zaz,zaa hi];rfl
  have hl:qos t.2.2.1 (i+1)=t.2.2.1[i]:=by simp only[qos,Nat.add_one_ne_zero,if_false,Nat.add_sub_cancel];exact hd
  simp only[qbK hi,qai hi,cond_true,qY _ hi,qan (show i<4611686018427387904 by omega),hl];simp only[pkG,hd,qbD,qdX,qp];have hq:(t.2.2.1[i]≤qos t.2.2.1 i∨(t.2.1.length:Int)≤t.2.2.1[i])↔(t.2.2.1[i]<0∨(t.2.1.length:Int)≤t.2.2.1[i]∨(0<i∧t.2.2.1[i]≤t.2.2.1.getD (i-1) 0)):=by
   cases i with
   |zero=>simp only[qos,if_true,zaW,false_and,or_false];omega
   |succ i=>
    have:=qbe hf i (by omega);simp only[pkG]at this;split at this
    ·cases this
    ·rename_i hn;simp only[qos,Nat.add_one_ne_zero,if_false,Nat.add_sub_cancel,Nat.succ_pos,true_and];omega
  by_cases q:t.2.2.1[i]≤qos t.2.2.1 i∨(t.2.1.length:Int)≤t.2.2.1[i]
  ·rw[if_pos (hq.1 q),qV (by simpa using q)]
  ·rw[if_neg (fun e=>q (hq.2 e)),qE (by simpa using q)]
 ·simp only;rw[qE (qbs (zaW _)),qbD];by_cases q:t.2.2.1.length=0
  ·rw[if_pos q,qV (by simp[qos,q])]
  ·rw[if_neg q,qE (by
    have:=qbe hf (t.2.2.1.length-1) (by omega);simp only[pkG]at this;split at this
    ·cases this
    ·rename_i hn;simp only[qos,if_neg q,decide_eq_false_iff_not];omega)]
   cases qae (qoG t.2.1.length cs) cs.length<;>rfl
 ·cases qae (pkG t.2.1.length t.2.2.1) t.2.2.1.length<;>rfl
end
end Go.Proofs.YtghccmfcndnljaaGreat
namespace Go.Proofs.YtghccmfcndnljaaGreat
open Go.Vi
noncomputable section
abbrev zC:qd:=(([]:List UInt8),(0,(false,())))
def InR (n:Nat) (cs:List Int):Prop:=∀k∈cs,0≤k∧k<(n:Int)
theorem qdP {t:qD}{cs:List Int}(h:qlB t cs=0):t.2.1.length≤6∧InR t.2.1.length t.2.2.1∧InR t.2.1.length cs∧(∀i,i+1<t.2.2.1.length→t.2.2.1.getD i 0<t.2.2.1.getD (i+1) 0):=by
 unfold qlB at h;split at h
 ·cases h
 rename_i h6;split at h
 ·rename_i e he;obtain⟨i,_,h2,_⟩:=qa7 he;simp only[pkG]at h2;split at h2
  ·injection h2 with h2;omega
  ·cases h2
 rename_i hp;split at h
 ·cases h
 split at h
 ·rename_i e he;obtain⟨i,_,h2,_⟩:=qa7 he;simp only[qoG]at h2;split at h2
  ·injection h2 with h2;omega
  ·cases h2
 rename_i hc;refine⟨by omega,fun k hk=>?_,fun k hk=>?_,fun i hi=>?_⟩
 ·obtain⟨i,hi,rfl⟩:=zaw hk;have:=qbe hp i hi;simp only[pkG]at this;split at this
  ·cases this
  ·rename_i hn;rw[zaz,zaa hi,Option.getD_some]at hn;omega
 ·obtain⟨i,hi,rfl⟩:=zaw hk;have:=qbe hc i hi;simp only[qoG]at this;split at this
  ·cases this
  ·rename_i hn;rw[zaz,zaa hi,Option.getD_some]at hn;simp only[not_or]at hn;omega
 ·have:=qbe hp (i+1) hi;simp only[pkG]at this;split at this
  ·cases this
  ·rename_i hn;simp only[Nat.add_sub_cancel,Nat.succ_pos,true_and]at hn;omega
def quJ (c:qd) (v:qun):Bool:=decide (v.1=c.2.1)||(decide (v.1=0)&&c.2.2.1)
def qt9 (t:qD) (cs:List Int) (r:qba) (i:Nat):Option Bool:=if quJ (qh t.2.1 (cs.getD i 0) zC) (r.getD i zV)=true then none else some false
def qeD (t:qD) (cs:List Int) (r:qba):Bool:=decide (r.length=cs.length)&&(decide (qfb r=0)&&(qae (qt9 t cs r) r.length).isNone)
theorem qap {α:Type}{xs:List α}{i:Nat}(d:α) (h:i<xs.length):xs.getD i d=xs[i]:=by rw[zaz,zaa h];rfl
theorem qka (N:Nat) (t:qD) (cs:List Int) (r:qba) (hc:InR t.2.1.length cs) (h2:cs.length<N) (hN:20<N) (hB:N≤1099511627776):qaE N (t,(cs,(r,())))=some ((qeD t cs r,()),()):=by
 simp only[qaE,qJ,qmd N r hN,qg,qj,za4,cond_true,qaC,qp,qeD];by_cases hl:r.length=cs.length
 ·by_cases he:qfb r=0
  ·rw[qE (by simp[hl,he]),decide_eq_true hl,decide_eq_true he,zbd,zbd,hl];refine(qaW (S:=Int×Unit) (fun i=>((i:Int),())) cs.length (qt9 t cs r) (fun e=>some ((e,()),())) (some ((true,()),())) rfl (fun i hi _ ih=>?_) (fun _ ih=>?_) h2).trans ?_
   ·have hr:i<r.length:=by omega
    have hk:=hc cs[i] (zau hi);simp only[←qp,qbK hi,qai hi,qai hr,cond_true,qY _ hi,qY _ hr,qan (show i<4611686018427387904 by omega),za4,zak,show inB cs[i] (qs t.2.1)=true from by rw[qfH,qp];exact decide_eq_true hk];simp only[qt9,qap _ hi,qap _ hr,quJ];simp only[zC];generalize (r[i]).1=a;generalize (qh t.2.1 cs[i] (([]:List UInt8),(0,(false,())))).2.1=b;generalize (qh t.2.1 cs[i] (([]:List UInt8),(0,(false,())))).2.2.1=c;by_cases q1:a=b<;>by_cases q2:a=0<;>cases c<;>simp_all
   ·simp only;rw[qE (by rw[qbD];simp)]
   ·cases hf:qae (qt9 t cs r) cs.length with
    |none=>rfl
    |some e=>
     obtain⟨i,_,k2,_⟩:=qa7 hf;unfold qt9 at k2;split at k2
     ·cases k2
     ·injection k2 with k2;subst k2;rfl
  ·rw[qV (by simp[he]),decide_eq_false he];simp
 ·rw[qV (by simp;omega),decide_eq_false hl];simp
theorem qfB (N:Nat) (t:qD) (cs:List Int) (r:qba) (hc:InR t.2.1.length cs) (h2:cs.length<N) (hN:20<N) (hB:N≤1099511627776):qT N (t,(cs,(r,())))=some ((qeD t cs r,()),()):=by
 simp only[qT,qJ,qiB N r hN,qg,qj,za4,cond_true,qaC,qp,qeD];by_cases hl:r.length=cs.length
 ·by_cases he:qfb r=0
  ·rw[qE (by simp[hl,he]),decide_eq_true hl,decide_eq_true he,zbd,zbd];refine(qaW (S:=Int×Unit) (fun i=>((i:Int),())) r.length (qt9 t cs r) (fun e=>some ((e,()),())) (some ((true,()),())) rfl (fun i hr _ ih=>?_) (fun _ ih=>?_) (by omega)).trans ?_
   ·have hi:i<cs.length:=by omega
    have hk:=hc cs[i] (zau hi);simp only[←qp,qbK hr,qai hi,qai hr,cond_true,qY _ hi,qY _ hr,qan (show i<4611686018427387904 by omega),za4,zak,show inB cs[i] (qs t.2.1)=true from by rw[qfH,qp];exact decide_eq_true hk,qaQ];simp only[qt9,qap _ hi,qap _ hr,quJ];simp only[zC];generalize (r[i]).1=a;generalize (qh t.2.1 cs[i] (([]:List UInt8),(0,(false,())))).2.1=b;generalize (qh t.2.1 cs[i] (([]:List UInt8),(0,(false,())))).2.2.1=c;by_cases q1:a=b<;>by_cases q2:a=0<;>cases c<;>simp_all
   ·simp only;rw[qE (by rw[qbD];simp)]
   ·cases hf:qae (qt9 t cs r) r.length with
    |none=>rfl
    |some e=>
     obtain⟨i,_,k2,_⟩:=qa7 hf;unfold qt9 at k2;split at k2
     ·cases k2
     ·injection k2 with k2;subst k2;rfl
  ·rw[qV (by simp[he]),decide_eq_false he];simp
 ·rw[qV (by simp;omega),decide_eq_false hl];simp
def qrY (t:qD) (r:qba) (i:Nat):Option Int:=
 if(r.getD i zV).1=0∧(t.2.1.getD i zC).2.2.1=false then some 8 else if(r.getD i zV).1≠0∧(r.getD i zV).1≠(t.2.1.getD i zC).2.1 then some 7 else none
def qeu (t:qD) (r:qba):Int:=if qfb r≠0 then qfb r else if r.length≠t.2.1.length then 7 else match qae (qrY t r) r.length with
 |some e=>e
 |none=>0
theorem qcQ (N:Nat) (t:qD) (r:qba) (h1:t.2.1.length<N) (hN:20<N) (hB:N≤1099511627776):qaI N (t,(r,()))=some ((qeu t r,()),()):=by
 simp only[qaI,qJ,qmd N r hN,qg,qj,cond_true,qaC,qp,qeu];by_cases he:qfb r=0
 ·rw[if_neg (fun q=>q he),qE (by simp[he])];by_cases hl:r.length=t.2.1.length
  ·rw[if_neg (fun q=>q hl),qE (by simp[hl])];refine(qaW (S:=Int×Unit) (fun i=>((i:Int),())) r.length (qrY t r) (fun e=>some ((e,()),())) (some ((0,()),())) rfl (fun i hr _ ih=>?_) (fun _ ih=>?_) (by omega)).trans ?_
   ·have hi:i<t.2.1.length:=by omega
    simp only[←qp,qbK hi,qai hi,qai hr,cond_true,qY _ hi,qY _ hr,qan (show i<4611686018427387904 by omega),za4,zak,qaQ];simp only[qrY,qap _ hi,qap _ hr];generalize (r[i]).1=a;generalize (t.2.1[i]).2.1=b;generalize (t.2.1[i]).2.2.1=c;by_cases q1:a=b<;>by_cases q2:a=0<;>cases c<;>simp_all
   ·simp only;rw[qE (by rw[qbD];simp[hl])]
   ·cases qae (qrY t r) r.length<;>rfl
  ·rw[if_pos hl,qV (by simp;omega)]
 ·rw[if_pos he,qV (by simp[he])]
theorem qht (N:Nat) (t:qD) (r:qba) (h1:t.2.1.length<N) (hN:20<N) (hB:N≤1099511627776):qbx N (t,(r,()))=some ((qeu t r,()),()):=by
 simp only[qbx,qJ,qiB N r hN,qg,qj,cond_true,qaC,qp,qeu];by_cases he:qfb r=0
 ·rw[if_neg (fun q=>q he),qE (by simp[he])];by_cases hl:r.length=t.2.1.length
  ·rw[if_neg (fun q=>q hl),qE (by simp[hl])];refine(qaW (S:=Int×Unit) (fun i=>((i:Int),())) r.length (qrY t r) (fun e=>some ((e,()),())) (some ((0,()),())) rfl (fun i hr _ ih=>?_) (fun _ ih=>?_) (by omega)).trans ?_
   ·have hi:i<t.2.1.length:=by omega
    simp only[←qp,qbK hr,qai hi,qai hr,cond_true,qY _ hi,qY _ hr,qan (show i<4611686018427387904 by omega),za4,zak,qaQ];simp only[qrY,qap _ hi,qap _ hr];generalize (r[i]).1=a;generalize (t.2.1[i]).2.1=b;generalize (t.2.1[i]).2.2.1=c;by_cases q1:a=b<;>by_cases q2:a=0<;>cases c<;>simp_all
   ·simp only;rw[qE (by rw[qbD];simp)]
   ·cases qae (qrY t r) r.length<;>rfl
  ·rw[if_pos hl,qV (by simp;omega)]
 ·rw[if_pos he,qV (by simp[he])]
def qmN (t:qD) (ks:List qba) (i:Nat):Option Int:=
 if qeD t t.2.2.1 (ks.getD i [])=false then some 3 else if 0<i∧¬qaa (ks.getD (i-1) []) (ks.getD i [])<0 then some 6 else none
def qtu (t:qD) (ks:List qba):Int:=match qae (qmN t ks) ks.length with
 |some e=>e
 |none=>0
structure Sm (N:Nat) (t:qD):Prop where
 n:N≤1099511627776
 big:2000000<N
 cols:t.2.1.length≤1048576
 pk:t.2.2.1.length≤1048576
def SmR (rs:List qba):Prop:=rs.length≤1048576∧∀r∈rs,r.length≤1048576
theorem qn9 (N:Nat) (t:qD) (ks:List qba) (h:Sm N t) (hc:InR t.2.1.length t.2.2.1) (hk:SmR ks):qbN N (t,(ks,()))=some ((qtu t ks,()),()):=by
 have hn:=h.n;have hb:=h.big;have hp:=h.pk;have hkl:=hk.1;simp only[qbN,qJ,qtu];refine(qaW (S:=Int×Unit) (fun i=>((i:Int),())) ks.length (qmN t ks) (fun e=>some ((e,()),())) (some ((0,()),())) rfl (fun i hi _ ih=>?_) (fun _ ih=>?_) (by omega)).trans ?_
 ·simp only[qbK hi,qai hi,cond_true,qY _ hi,qan (show i<4611686018427387904 by omega),qka N t _ _ hc (by omega) (by omega) hn,qg,qj];simp only[qmN,qap _ hi];by_cases hm:qeD t t.2.2.1 ks[i]=true
  ·rw[qE (by simp[hm]),if_neg (by simp[hm])];cases i with
   |zero=>simp[qbD]
   |succ i=>
    have hi':i<ks.length:=by omega
    have s1:qR .i64 ((i+1:Nat):Int) 1=(i:Int):=by rw[qas (by omega) (by omega)];omega
    have hl:(ks[i]).length≤1048576:=hk.2 _ (zau hi');simp only[s1,qai hi',qY _ hi',qb7 N _ _ (by omega:(ks[i]).length<N) hn,qg,qj,za4,zak,cond_true,Nat.add_sub_cancel,qap _ hi',qbD,qdX];by_cases q:qaa ks[i] ks[i+1]<0
    ·rw[if_neg (fun e=>e.2 q),qE (by simp;omega)]
    ·rw[if_pos ⟨by omega,q⟩,qV (by simp;omega)]
  ·rw[qV (by simp[hm]),if_pos (by simpa using hm)]
 ·simp only;rw[qE (qbs (zaW _))]
 ·cases qae (qmN t ks) ks.length<;>rfl
end
end Go.Proofs.YtghccmfcndnljaaGreat
namespace Go.Proofs.YtghccmfcndnljaaGreat
open Go.Vi
noncomputable section
abbrev qe4:Type:=qb
abbrev qgf:Type:=qG
abbrev zE:qe4:=(([]:List qa),(([]:List (List qa)),()))
theorem qq9 {t:qD}{ks:List qba}{i:Nat}{e:Int}(h:qmN t ks i=some e):e=3∨e=6:=by
 simp only[qmN]at h;split at h
 ·injection h with h;omega
 ·split at h
  ·injection h with h;omega
  ·cases h
def qqi (t:qD) (cs:List Int) (es:List qe4) (i:Nat):Option Int:=
 if qeD t cs (es.getD i zE).1=false∨(es.getD i zE).2.1.length=0 then some 3
 else if 0<i∧¬qaa (es.getD (i-1) zE).1 (es.getD i zE).1<0 then some 6
 else qae (qmN t (es.getD i zE).2.1) (es.getD i zE).2.1.length
def qev (es:List qe4):List qba:=es.flatMap fun e=>e.2.1
open Classical in
def qkG (x:qgf):Int:=if qlB x.1 x.2.1≠0 then qlB x.1 x.2.1 else match qae (qqi x.1 x.2.1 x.2.2.1) x.2.2.1.length with
 |some e=>e
 |none=>if(qev x.2.2.1).Nodup then 0 else 9
structure SmI (N:Nat) (x:qgf):Prop extends Sm N x.1 where
 cs:x.2.1.length≤1048576
 es:x.2.2.1.length≤1048576
 vals:∀e∈x.2.2.1,e.1.length≤1048576
 keys:(qev x.2.2.1).length≤1048576
 krow:∀k∈qev x.2.2.1,k.length≤1048576
theorem qty: {l:List Nat}→{a:Nat}→a∈l→a≤l.sum
 |b::l,a,h=>by
  rcases zam.1 h with rfl|h
  ·simp
  ·have:=qty h;simp only[List.sum_cons];omega
theorem SmI.smr {N:Nat}{x:qgf}(h:SmI N x) {e:qe4}(he:e∈x.2.2.1):SmR e.2.1:=by
 refine⟨?_,fun r hr=>h.krow r (za2.2 ⟨e,he,hr⟩)⟩;have:e.2.1.length≤(qev x.2.2.1).length:=by
  unfold qev;rw[List.length_flatMap];exact qty (zaR (f:=fun e:qe4=>e.2.1.length) he)
 have:=h.keys;omega
theorem qgG {es:List qe4}{i:Nat}(h:i<es.length):qev (es.take (i+1))=qev (es.take i)++(es[i]).2.1:=by
 rw[qb2 h,qev,List.flatMap_append];simp[qev]
theorem qf6 (es:List qe4) (i:Nat):(qev (es.take i)).length≤(qev es).length:=by
 conv=>rhs;rw[←zaK i es,qev,List.flatMap_append,zag]
 exact Nat.le_add_right _ _
theorem lenOk (N:Nat):qrS (qbH N):=fun k hk=>by
 obtain⟨e,h1,h2⟩:=qtT k hk;refine⟨e,?_,h2⟩;have h1':qdl N ((k:Int),())=some (((e:Int),()),()):=h1;simp only[qbH,h1',qg,qj,cond_true]
abbrev phiR (N:Nat):(qba×(qba×Unit))→Option (Int×Unit):=fun x4=>(qhI (fun y5:((Int×Unit)×Unit)=>(y5.1.1,())) (qw N (x4.1,(x4.2.1,()))))
theorem qlm (a:qba):¬qaa a a<0:=by rw[(qb6 a a).2 rfl];omega
theorem qvK {a b:qba}(h1:¬qaa a b<0) (h2:¬qaa b a<0):a=b:=(qb6 a b).1 (by rw[qfk a b]at h2;omega)
theorem cmpR (N:Nat) (hB:N≤1099511627776):Cmp (fun r:qba=>r.length<N) (phiR N) (fun a b=>¬qaa b a<0) where
 ans a b ha hb:=by
  refine⟨qaa a b,?_,by simp⟩;simp only[phiR,qb7 N a b ha hB,qdR,Option.map_some]
 tot a b _ _:=by
  by_cases h:qaa b a<0
  ·right;intro h2;exact qlm _ (qew _ _ _ h h2)
  ·exact .inl h
 trans a b c _ _ _ h1 h2 h3:=by
  by_cases e:qaa b a<0
  ·exact h1 e
  ·by_cases e2:qaa a b<0
   ·exact h2 (qew _ _ _ h3 e2)
   ·rw[qvK e2 e]at h3;exact h2 h3
theorem que (N:Nat) (xs:List qba) (hB:N≤1099511627776) (hN:xs.length+10<N) (hx:∀r∈xs,r.length<N):∃K,qbn N (xs,(phiR N,()))=some ((),(K,()))∧K.Perm xs∧∀i j (hi:i<K.length) (hj:j<K.length),i≤j→¬qaa K[j] K[i]<0:=by
 obtain⟨out,o1,o2,o3⟩:=qtl (n:=xs.length) ([]:qba) (cmpR N hB) (lenOk N) (by omega) hN (xs:=xs) ⟨rfl,hx⟩;refine⟨out,o1,o2.perm,fun i j hi hj hij=>?_⟩;have hl:=o2.perm.length_eq;have h:=o3 i j (by omega) (by omega) (by omega);rw[qY _ hi,qY _ hj]at h;exact h
def qvZ (K:List qba) (i:Nat):Option Int:=if 0<i∧qaa (K.getD (i-1) []) (K.getD i [])=0 then some 9 else none
open Classical in
theorem qrF {K:List qba}(hs:∀i j (hi:i<K.length) (hj:j<K.length),i≤j→¬qaa K[j] K[i]<0):(match qae (qvZ K) K.length with
  |some e=>e
  |none=>0)=if K.Nodup then 0 else 9:=by
 cases hf:qae (qvZ K) K.length with
 |some e=>
  obtain⟨i,h1,h2,_⟩:=qa7 hf;unfold qvZ at h2;split at h2
  ·rename_i hc;injection h2 with h2;subst h2;rw[if_neg];intro hn;rw[qap _ h1,qap _ (show i-1<K.length by omega)]at hc;have e:=(qb6 _ _).1 hc.2;have:=(zaQ.1 (List.nodup_iff_pairwise_ne.1 hn)) (i-1) i (by omega) h1 (by omega);exact this e
  ·cases h2
 |none=>
  rw[if_pos];have key:K.Pairwise (fun a b=>qaa a b<0):=qhb _ (fun a b c=>qew a b c) K fun i hi=>by
   have:=qbe hf (i+1) hi;unfold qvZ at this;split at this
   ·cases this
   ·rename_i hn;simp only[Nat.succ_pos,true_and,Nat.add_sub_cancel]at hn;rw[qap _ hi,qap _ (show i<K.length by omega)]at hn;have h2:=hs i (i+1) (by omega) hi (by omega);rw[qfk]at h2;omega
  exact List.nodup_iff_pairwise_ne.2 (key.imp fun h e=>by rw[e]at h;exact qlm _ h)
theorem qdn (N:Nat) (x:qgf) (h:SmI N x):qaK N (x,())=some ((qkG x,()),()):=by
 have hn:=h.n;have hb:=h.big;have hp:=h.pk;have hes:=h.es;have hcs:=h.cs;have hkk:=h.keys;simp only[qaK,qJ,qjY N x.1 x.2.1 (by omega) (by omega) hn,qg,qj,cond_true,qaC,qkG];by_cases ht':¬qlB x.1 x.2.1=0
 ·rw[if_pos ht',qV (by simp[ht'])]
 have ht:=Classical.not_not.1 ht';rw[if_neg (fun q=>q ht),qE (by simp[ht])];obtain⟨_,hr1,hr2,_⟩:=qdP ht;refine(qaW (S:=List qba×(Int×Unit)) (fun i=>(qev (x.2.2.1.take i),((i:Int),()))) x.2.2.1.length (qqi x.1 x.2.1 x.2.2.1) (fun e=>some ((e,()),())) (some (((match qae (qqi x.1 x.2.1 x.2.2.1) x.2.2.1.length with
  |some e=>e
  |none=>open Classical in if(qev x.2.2.1).Nodup then 0 else 9),()),())) rfl (fun i hi _ ih=>?_) (fun hf ih=>?_) (by omega)).trans ?_
 ·have hsr:=h.smr (zau hi);have hroom:qcm (qs (qev (x.2.2.1.take i))) (qs (x.2.2.1[i]).2.1) 24=true:=qcx (by
   have:=qf6 x.2.2.1 (i+1);rw[qgG hi,zag]at this;omega)
  simp only[qbK hi,qai hi,cond_true,qY _ hi,qan (show i<4611686018427387904 by omega),qka N x.1 x.2.1 _ hr2 (by omega) (by omega) hn,qn9 N x.1 _ h.toSm hr1 hsr,qg,qj,hroom,qgG hi,qbi];simp only[qqi,qap _ hi,qaQ,qp];by_cases hm:qeD x.1 x.2.1 (x.2.2.1[i]).1=false∨(x.2.2.1[i]).2.1.length=0
  ·rw[if_pos hm,qV (by
    rcases hm with hm|hm
    ·simp[hm]
    ·simp[hm])]
  ·rw[if_neg hm,qE (by
    simp only[not_or,Bool.not_eq_false]at hm;simp only[hm.1,zaT,Bool.false_or];exact decide_eq_false (by omega))]
   have fin:(bif !decide (qtu x.1 (x.2.2.1[i]).2.1=0)then some ((qtu x.1 (x.2.2.1[i]).2.1,()),())else ih (qev (x.2.2.1.take i)++(x.2.2.1[i]).2.1,(((i+1:Nat):Int),())))=match qae (qmN x.1 (x.2.2.1[i]).2.1) (x.2.2.1[i]).2.1.length with
    |some e=>some ((e,()),())
    |none=>ih (qev (x.2.2.1.take i)++(x.2.2.1[i]).2.1,(((i+1:Nat):Int),())):=by
    unfold qtu;cases hf:qae (qmN x.1 (x.2.2.1[i]).2.1) (x.2.2.1[i]).2.1.length with
    |none=>simp
    |some e=>
     obtain⟨j,_,k2,_⟩:=qa7 hf;have:=qq9 k2;rw[qV (by simp;omega)]
   cases i with
   |zero=>
    simp only[zaW,false_and,if_false];simp only[qbD,Int.ofNat_zero,Int.lt_irrefl,decide_false,zaY,Bool.true_or,zak,cond_true,za7,cond_false];refine fin.trans ?_;cases qae (qmN x.1 (x.2.2.1[0]).2.1) (x.2.2.1[0]).2.1.length<;>rfl
   |succ i=>
    have hi':i<x.2.2.1.length:=by omega
    have s1:qR .i64 ((i+1:Nat):Int) 1=(i:Int):=by rw[qas (by omega) (by omega)];omega
    have hl:(x.2.2.1[i]).1.length≤1048576:=h.vals _ (zau hi');have b1:inB (i:Int) (x.2.2.1.length:Int)=true:=qpY hi';simp only[s1,b1,qY _ hi',qb7 N _ _ (by omega:(x.2.2.1[i]).1.length<N) hn,qg,qj,za4,zak,cond_true,Nat.add_sub_cancel,qap _ hi',qbD,qdX];by_cases q:qaa (x.2.2.1[i]).1 (x.2.2.1[i+1]).1<0
    ·rw[if_neg (fun e=>e.2 q),qE (by simp;omega)];refine fin.trans ?_;cases qae (qmN x.1 (x.2.2.1[i+1]).2.1) (x.2.2.1[i+1]).2.1.length<;>rfl
    ·rw[if_pos ⟨by omega,q⟩,qV (by simp;omega)]
 ·simp only;rw[qE (qbs (zaW _)),za5,hf];obtain⟨K,k1,k2,k3⟩:=que N (qev x.2.2.1) hn (by omega) (fun r hr=>by have:=h.krow r hr;omega);have hKl:=k2.length_eq;have hKr:∀r∈K,r.length<N:=fun r hr=>by have:=h.krow r (k2.mem_iff.1 hr);omega
  have k1':qbn N (qev x.2.2.1,((fun x3=>(qhI (fun y4=>(y4.1.1,())) (qw N (x3.1,(x3.2.1,()))))),()))=some ((),(K,())):=k1;rw[k1'];simp only[qg,qj,cond_true];have hnd:(if K.Nodup then(0:Int)else 9)=(open Classical in if(qev x.2.2.1).Nodup then(0:Int)else 9):=by
   by_cases q:K.Nodup
   ·rw[if_pos q,if_pos (k2.nodup_iff.1 q)]
   ·rw[if_neg q,if_neg (fun e=>q (k2.nodup_iff.2 e))]
  rw[←hnd];refine(qaW (S:=Int×Unit) (fun i=>((i:Int),())) K.length (qvZ K) (fun e=>some ((e,()),())) (some ((0,()),())) rfl (fun i hi _ ih=>?_) (fun _ ih=>?_) (by omega)).trans ?_
  ·simp only[qbK hi,qai hi,cond_true,qY _ hi,qan (show i<4611686018427387904 by omega)];simp only[qvZ,qap _ hi];cases i with
   |zero=>simp[qbD]
   |succ i=>
    have hi':i<K.length:=by omega
    have s1:qR .i64 ((i+1:Nat):Int) 1=(i:Int):=by rw[qas (by omega) (by omega)];omega
    simp only[s1,qai hi',qY _ hi',qb7 N _ _ (hKr _ (zau hi')) hn,qg,qj,za4,zak,cond_true,Nat.add_sub_cancel,qap _ hi',qbD,qaQ];by_cases q:qaa K[i] K[i+1]=0
    ·rw[if_pos ⟨by omega,q⟩,qV (by simp[q]<;>omega)]
    ·rw[if_neg (fun e=>q e.2),qE (by simp[q])]
  ·simp only;rw[qE (qbs (zaW _))]
  ·have:=qrF k3;cases hfd:qae (qvZ K) K.length with
   |none=>
    rw[hfd]at this;simp only at this;by_cases q:K.Nodup
    ·rw[if_pos q]
    ·rw[if_neg q]at this;cases this
   |some e=>
    rw[hfd]at this;simp only at this;by_cases q:K.Nodup
    ·rw[if_pos q]at this;rw[if_pos q,this]
    ·rw[if_neg q]at this;rw[if_neg q,this]
 ·cases qae (qqi x.1 x.2.1 x.2.2.1) x.2.2.1.length<;>rfl
end
end Go.Proofs.YtghccmfcndnljaaGreat
namespace Go.Proofs.YtghccmfcndnljaaGreat
open Go.Vi
noncomputable section
open Classical in
def qv2 (K:List qba) (i:Nat):Option Int:=if K.getD i []∈K.take i then some 9 else none
open Classical in
theorem qsE (K:List qba):(match qae (qv2 K) K.length with
  |some e=>e
  |none=>0)=if K.Nodup then 0 else 9:=by
 cases hf:qae (qv2 K) K.length with
 |some e=>
  obtain⟨i,h1,h2,_⟩:=qa7 hf;unfold qv2 at h2;split at h2
  ·rename_i hc;injection h2 with h2;subst h2;rw[if_neg];intro hn;rw[qap _ h1]at hc;obtain⟨j,hj,he⟩:=zaw hc;rw[zaf]at hj;rw[List.getElem_take]at he;have:=(zaQ.1 (List.nodup_iff_pairwise_ne.1 hn)) j i (by omega) h1 (by omega);exact this he
  ·cases h2
 |none=>
  rw[if_pos];refine List.nodup_iff_pairwise_ne.2 (zaQ.2 fun i j hi hj hij e=>?_);have:=qbe hf j hj;unfold qv2 at this;split at this
  ·cases this
  ·rename_i hn;rw[qap _ hj]at hn;refine hn (zaU (i:=i) ?_);rw[zal,if_pos hij,zaa hi,e]
theorem qu7 (N:Nat) (t:qD) (ks:List qba) (h:Sm N t) (hc:InR t.2.1.length t.2.2.1) (hk:SmR ks) (fin:Option ((Int×Unit)×Unit)):
  qaf (S:=(Int×Unit)) (R:=((Int×Unit)×Unit)) N (fun ih5=>(fun p6=>(bif (ltI p6.1 (qs ks))then(bif (inB p6.1 (qs ks))then(bif (qx (qT N (t,(t.2.2.1,((qh ks p6.1 ([]:List qa)),())))))then(bif (!(qi (qT N (t,(t.2.2.1,((qh ks p6.1 ([]:List qa)),())))) ((false,()),())).1.1)then(some ((3,()),()))else(bif (((!(ltI 0 p6.1))||(inB (qR .i64 p6.1 1) (qs ks)))&&((!(ltI 0 p6.1))||(qx (qM N ((qh ks p6.1 ([]:List qa)),((qh ks (qR .i64 p6.1 1) ([]:List qa)),()))))))then(bif ((ltI 0 p6.1)&&(leI (qi (qM N ((qh ks p6.1 ([]:List qa)),((qh ks (qR .i64 p6.1 1) ([]:List qa)),()))) ((0,()),())).1.1 0))then(some ((6,()),()))else(ih5 ((qQ .i64 p6.1 1),())))else none))else none)else none)else fin))) (0,())=match qae (qmN t ks) ks.length with
   |some e=>some ((e,()),())
   |none=>fin:=by
 have hn:=h.n;have hb:=h.big;have hp:=h.pk;have hkl:=hk.1;refine(qaW (S:=Int×Unit) (fun i=>((i:Int),())) ks.length (qmN t ks) (fun e=>some ((e,()),())) fin rfl (fun i hi _ ih=>?_) (fun _ ih=>?_) (by omega)).trans ?_
 ·simp only[qbK hi,qai hi,cond_true,qY _ hi,qan (show i<4611686018427387904 by omega),qfB N t _ _ hc (by omega) (by omega) hn,qg,qj];simp only[qmN,qap _ hi];by_cases hm:qeD t t.2.2.1 ks[i]=true
  ·rw[qE (by simp[hm]),if_neg (by simp[hm])];cases i with
   |zero=>simp[qbD]
   |succ i=>
    have hi':i<ks.length:=by omega
    have s1:qR .i64 ((i+1:Nat):Int) 1=(i:Int):=by rw[qas (by omega) (by omega)];omega
    have hl:(ks[i+1]).length≤1048576:=hk.2 _ (zau hi);simp only[s1,qai hi',qY _ hi',qcH N _ _ (by omega:(ks[i+1]).length<N) hn,qg,qj,za4,zak,cond_true,Nat.add_sub_cancel,qap _ hi',qbD,qdX];have hsw:=qfk ks[i] ks[i+1];by_cases q:qaa ks[i] ks[i+1]<0
    ·rw[if_neg (fun e=>e.2 q),qE (by simp;omega)]
    ·rw[if_pos ⟨by omega,q⟩,qV (by simp;omega)]
  ·rw[qV (by simp[hm]),if_pos (by simpa using hm)]
 ·simp only;rw[qE (qbs (zaW _))]
 ·cases qae (qmN t ks) ks.length<;>rfl
open Classical in
theorem refDup (N:Nat) (K:List qba) (hn:N≤1099511627776) (hl:K.length<N) (hr:∀r∈K,r.length<N):
  qaf (S:=(Int×Unit)) (R:=((Int×Unit)×Unit)) N (fun ih3=>(fun p4=>(bif (ltI p4.1 (qs K))then(bif (inB p4.1 (qs K))then(bif (inS 0 p4.1 (qs K))then(qaf (S:=(Int×Unit)) (R:=((Int×Unit)×Unit)) N (fun ih5=>(fun p6=>(bif (ltI p6.1 (qs (qbq K 0 p4.1)))then(bif (inB p6.1 (qs (qbq K 0 p4.1)))then(bif (qx (qF N ((qh K p4.1 ([]:List qa)),((qh (qbq K 0 p4.1) p6.1 ([]:List qa)),()))))then(bif (qi (qF N ((qh K p4.1 ([]:List qa)),((qh (qbq K 0 p4.1) p6.1 ([]:List qa)),()))) ((false,()),())).1.1 then(some ((9,()),()))else(ih5 ((qQ .i64 p6.1 1),())))else none)else none)else(ih3 ((qQ .i64 p4.1 1),()))))) (0,()))else none)else none)else(some ((0,()),()))))) (0,())=some (((if K.Nodup then(0:Int)else 9),()),()):=by
 refine(qaW (S:=Int×Unit) (fun i=>((i:Int),())) K.length (qv2 K) (fun e=>some ((e,()),())) (some ((0,()),())) rfl (fun i hi _ ih=>?_) (fun _ ih=>?_) hl).trans ?_
 ·have hs:inS 0 (i:Int) (qs K)=true:=by rw[qsr,qp];simp;omega
  simp only[qbK hi,qai hi,cond_true,qY _ hi,qqV,hs,qd6 N K[i] _ (hr _ (zau hi)) (by have:=hr _ (zau hi);omega),qg,qj,qan (show i<4611686018427387904 by omega)];have hlt:(K.take i).length=i:=by rw[zaf];omega
  refine(qaW (S:=Int×Unit) (fun j=>((j:Int),())) i (fun j=>if K[i]=K.getD j []then some (9:Int)else none) (fun e=>some ((e,()),())) (ih (((i+1:Nat):Int),())) rfl (fun j hj _ jh=>?_) (fun _ jh=>?_) (by omega)).trans ?_
  ·have hj':j<(K.take i).length:=by omega
   simp only[qbK hj',qai hj',cond_true,qY _ hj',List.getElem_take,qap _ (show j<K.length by omega),qan (show j<4611686018427387904 by omega)];by_cases q:K[i]=K[j]
   ·rw[if_pos q,qV (by simp[q])]
   ·rw[if_neg q,qE (by simp[q])]
  ·simp only;rw[qE (by rw[qbD,qp,hlt];simp)]
  ·unfold qv2;rw[qap _ hi];by_cases q:K[i]∈K.take i
   ·rw[if_pos q];cases hf:qae (fun j=>if K[i]=K.getD j []then some (9:Int)else none) i with
    |some e=>
     obtain⟨j,_,k2,_⟩:=qa7 hf;split at k2
     ·injection k2 with k2;subst k2;rfl
     ·cases k2
    |none=>
     obtain⟨j,hj,he⟩:=zaw q;have:=qbe hf j (by omega);rw[List.getElem_take]at he;rw[qap _ (show j<K.length by omega),if_pos he.symm]at this;cases this
   ·rw[if_neg q];cases hf:qae (fun j=>if K[i]=K.getD j []then some (9:Int)else none) i with
    |none=>rfl
    |some e=>
     obtain⟨j,hj,k2,_⟩:=qa7 hf;split at k2
     ·rename_i he;rw[qap _ (show j<K.length by omega)]at he;exact absurd (zaU (i:=j) (by rw[zal,if_pos hj,zaa (show j<K.length by omega),he])) q
     ·cases k2
 ·simp only;rw[qE (qbs (zaW _))]
 ·have:=qsE K;cases hfd:qae (qv2 K) K.length with
  |none=>
   rw[hfd]at this;simp only at this;rw[←this]
  |some e=>
   rw[hfd]at this;simp only at this;rw[←this]
theorem qfp (N:Nat) (x:qgf) (h:SmI N x):qaw N (x,())=some ((qkG x,()),()):=by
 have hn:=h.n;have hb:=h.big;have hp:=h.pk;have hes:=h.es;have hcs:=h.cs;have hkk:=h.keys;simp only[qaw,qJ,qmp N x.1 x.2.1 (by omega) (by omega) hn,qg,qj,cond_true,qaC,qkG];by_cases ht':¬qlB x.1 x.2.1=0
 ·rw[if_pos ht',qV (by simp[ht'])]
 have ht:=Classical.not_not.1 ht';rw[if_neg (fun q=>q ht),qE (by simp[ht])];obtain⟨_,hr1,hr2,_⟩:=qdP ht;refine(qaW (S:=List qba×(Int×Unit)) (fun i=>(qev (x.2.2.1.take i),((i:Int),()))) x.2.2.1.length (qqi x.1 x.2.1 x.2.2.1) (fun e=>some ((e,()),())) (some (((match qae (qqi x.1 x.2.1 x.2.2.1) x.2.2.1.length with
  |some e=>e
  |none=>open Classical in if(qev x.2.2.1).Nodup then 0 else 9),()),())) rfl (fun i hi _ ih=>?_) (fun hf ih=>?_) (by omega)).trans ?_
 ·have hsr:=h.smr (zau hi);have hroom:qcm (qs (qev (x.2.2.1.take i))) (qs (x.2.2.1[i]).2.1) 24=true:=qcx (by
   have:=qf6 x.2.2.1 (i+1);rw[qgG hi,zag]at this;omega)
  simp only[qbK hi,qai hi,cond_true,qY _ hi,qan (show i<4611686018427387904 by omega),qfB N x.1 x.2.1 _ hr2 (by omega) (by omega) hn,qg,qj,hroom,za4,qbi,qu7 N x.1 _ h.toSm hr1 hsr];rw[←qgG hi];simp only[qqi,qap _ hi,qaQ];by_cases hm:qeD x.1 x.2.1 (x.2.2.1[i]).1=false∨(x.2.2.1[i]).2.1.length=0
  ·rw[if_pos hm,qV (by
    rw[qp];rcases hm with hm|hm
    ·simp[hm]
    ·simp[hm])]
  ·rw[if_neg hm,qE (by
    rw[qp];simp only[not_or,Bool.not_eq_false]at hm;simp only[hm.1,zaT,Bool.or_false];exact decide_eq_false (by omega))]
   cases i with
   |zero=>
    simp only[zaW,false_and,if_false];simp only[qbD,Int.ofNat_zero,Int.lt_irrefl,decide_false,zaY,Bool.true_or,zak,cond_true,za7,cond_false];cases qae (qmN x.1 (x.2.2.1[0]).2.1) (x.2.2.1[0]).2.1.length<;>rfl
   |succ i=>
    have hi':i<x.2.2.1.length:=by omega
    have s1:qR .i64 ((i+1:Nat):Int) 1=(i:Int):=by rw[qas (by omega) (by omega)];omega
    have hl:(x.2.2.1[i+1]).1.length≤1048576:=h.vals _ (zau hi);simp only[s1,qai hi',qY _ hi',qcH N _ _ (by omega:(x.2.2.1[i+1]).1.length<N) hn,qg,qj,za4,zak,cond_true,Nat.add_sub_cancel,qap _ hi',qbD,qdX];have hsw:=qfk (x.2.2.1[i]).1 (x.2.2.1[i+1]).1;by_cases q:qaa (x.2.2.1[i]).1 (x.2.2.1[i+1]).1<0
    ·rw[if_neg (fun e=>e.2 q),qE (by simp;omega)];cases qae (qmN x.1 (x.2.2.1[i+1]).2.1) (x.2.2.1[i+1]).2.1.length<;>rfl
    ·rw[if_pos ⟨by omega,q⟩,qV (by simp;omega)]
 ·simp only;rw[qE (qbs (zaW _)),za5,hf];exact refDup N (qev x.2.2.1) hn (by omega) (fun r hr=>by have:=h.krow r hr;omega)
 ·cases qae (qqi x.1 x.2.1 x.2.2.1) x.2.2.1.length<;>rfl
end
end Go.Proofs.YtghccmfcndnljaaGreat
namespace Go.Proofs.YtghccmfcndnljaaGreat
open Go.Vi
noncomputable section
theorem qsO (N:Nat) (xs:qba) (h:xs.length≤1099511627776):qag N (xs,())=some ((xs,()),()):=by
 simp only[qag];have hr:qcm (qs ([]:List qa)) (qs xs) 32=true:=qcx (by simp;omega);rw[hr];simp only[cond_true,qbi,List.nil_append];cases xs with
 |nil=>rw[qV (by rw[qaQ,qp];rfl),qh0,if_pos rfl]
 |cons x r=>rw[qE (by rw[qaQ,qp];simp;omega)]
theorem qvy (N:Nat) (xs:List Int) (h:xs.length≤1099511627776):qbG N (xs,())=some ((xs,()),()):=by
 simp only[qbG];have hr:qcm (qs ([]:List Int)) (qs xs) 8=true:=qcx (by simp;omega);rw[hr];simp only[cond_true,qbi,List.nil_append];cases xs with
 |nil=>rw[qV (by rw[qaQ,qp];rfl),qh0,if_pos rfl]
 |cons x r=>rw[qE (by rw[qaQ,qp];simp;omega)]
theorem cloneC (N:Nat) (xs:List qd) (h:xs.length≤1099511627776):qbm N (xs,())=some ((xs,()),()):=by
 simp only[qbm];have hr:qcm (qs ([]:List qd)) (qs xs) 32=true:=qcx (by simp;omega);rw[hr];simp only[cond_true,qbi,List.nil_append];cases xs with
 |nil=>rw[qV (by rw[qaQ,qp];rfl),qh0,if_pos rfl]
 |cons x r=>rw[qE (by rw[qaQ,qp];simp;omega)]
theorem qnr (N:Nat) (x:qgf) (h:SmI N x):qc N (x,())=some ((x,()),()):=by
 have hn:=h.n;have hb:=h.big;have hp:=h.pk;have hco:=h.cols;have hes:=h.es;have hcs:=h.cs;have hkk:=h.keys;have hva:=h.vals;have hsm:∀e∈x.2.2.1,SmR e.2.1:=fun e he=>h.smr he;obtain⟨⟨nm,cols,pk,⟨⟩⟩,cs,es,⟨⟩⟩:=x;simp only at hp hco hes hcs hkk hva hsm;simp only[qc,qJ,qvy N cs (by omega),qvy N pk (by omega),cloneC N cols (by omega),qg,qj,cond_true,zak];refine qdh (S:=qgf×(Int×Unit)) (fun i=>(((nm,(cols,(pk,()))),(cs,(es.take i,()))),((i:Int),()))) es.length _ (by simp) (fun i hi ih=>?_) (fun ih=>?_) (by omega)
 ·have hl:=hva _ (zau hi);have hk:=hsm _ (zau hi);have hkl:=hk.1;simp only[qbK hi,qai hi,cond_true,qY _ hi,qsO N (es[i]).1 (by omega),qg,qj];refine(qml (S:=qgf×(qe4×(Int×Unit))) (fun k=>(((nm,(cols,(pk,()))),(cs,(es.take i,()))),(((es[i]).1,((es[i]).2.1.take k,())),((k:Int),())))) (es[i]).2.1.length (ih (((nm,(cols,(pk,()))),(cs,(es.take (i+1),()))),(((i+1:Nat):Int),()))) (by simp) (fun k hkk2 kh=>?_) (fun kh=>?_) (by omega))
  ·have hr:=hk.2 _ (zau hkk2);have hroom:qcm (qs ((es[i]).2.1.take k)) (qs ([(es[i]).2.1[k]]:List qba)) 24=true:=qcx (by rw[zaf];simp;omega);simp only[qbK hkk2,qai hkk2,cond_true,qY _ hkk2,qsO N ((es[i]).2.1[k]) (by omega),qg,qj,hroom,zak,qan (show k<4611686018427387904 by omega),qbi,qb2 hkk2]
  ·have hroom:qcm (qs (es.take i)) (qs ([((es[i]).1,((es[i]).2.1,()))]:List qe4)) 48=true:=qcx (by rw[zaf];simp;omega);simp only[qbs (zaW _),cond_false,za5,hroom,cond_true,qan (show i<4611686018427387904 by omega),qbi,qb2 hi]
 ·simp only[qbs (zaW _),cond_false,za5]
def qcu (r:qba) (cs:List Int):qba:=cs.map fun k=>qh r k zV
theorem qnb (N:Nat) (r:qba) (cs:List Int) (hc:InR r.length cs) (hl:cs.length≤1048576) (hN:2000000<N):qaR N (r,(cs,()))=some ((qcu r cs,()),()):=by
 simp only[qaR];refine qdh (S:=qba×(Int×Unit)) (fun i=>(qcu r (cs.take i),((i:Int),()))) cs.length _ (by simp[qcu]) (fun i hi ih=>?_) (fun ih=>?_) (by omega)
 ·have hk:=hc cs[i] (zau hi);have hroom:qcm (qs (qcu r (cs.take i))) (qs ([qh r cs[i] zV]:qba)) 32=true:=qcx (by rw[qcu,List.length_map,zaf];simp;omega);have e1:qcu r (cs.take (i+1))=qcu r (cs.take i)++[qh r cs[i] zV]:=by rw[qb2 hi,qcu,za3];rfl
  simp only[qbK hi,qai hi,cond_true,qY _ hi,show inB cs[i] (qs r)=true from by rw[qfH,qp];exact decide_eq_true hk,hroom,zak,qan (show i<4611686018427387904 by omega),qbi,e1]
 ·simp only[qbs (zaW _),cond_false,za5]
abbrev DIR:Type:=qe
theorem qn6 (N:Nat) (t:qD) (r:qba) (cs:List Int) (hc:InR r.length cs) (hl:cs.length≤1048576) (hp:t.2.2.1.length≤1048576) (hN:2000000<N) (hB:N≤1099511627776):qak N (t,(cs,(r,())))=some (((qcu r cs,(qgv t.2.2.1 r,())),()),()):=by
 simp only[qak];refine qdh (S:=qba×(Int×Unit)) (fun i=>(qcu r (cs.take i),((i:Int),()))) cs.length _ (by simp[qcu]) (fun i hi ih=>?_) (fun ih=>?_) (by omega)
 ·have hk:=hc cs[i] (zau hi);have hroom:qcm (qs (qcu r (cs.take i))) (qs ([qh r cs[i] zV]:qba)) 32=true:=qcx (by rw[qcu,List.length_map,zaf];simp;omega);have e1:qcu r (cs.take (i+1))=qcu r (cs.take i)++[qh r cs[i] zV]:=by rw[qb2 hi,qcu,za3];rfl
  simp only[qbK hi,qai hi,cond_true,qY _ hi,show inB cs[i] (qs r)=true from by rw[qfH,qp];exact decide_eq_true hk,hroom,zak,qan (show i<4611686018427387904 by omega),qbi,e1]
 ·simp only[qbs (zaW _),cond_false,za5,qvg N t r (by omega) hB,qg,qj,cond_true]
def bsF {α β:Type}(d:α) (N:Nat) (x:List α×(β×(((α×(β×Unit))→Option (Int×Unit))×Unit))):Option ((Int×(Bool×Unit))×Unit):=
 (qW (qs x.1) (fun y0=>(qaf (S:=(Int×(Int×Unit))) (R:=((Int×(Bool×Unit))×Unit)) N (fun ih1=>(fun p2=>(bif (ltI p2.1 p2.2.1)then(bif (leI 0 1)then(qW (qbI .i64 (qgY .u64 (qbI .u64 (qQ .i64 p2.1 p2.2.1)) 1)) (fun y3=>(bif ((inB y3 (qs x.1))&&(qx (x.2.2.1 ((qh x.1 y3 d),(x.2.1,())))))then(ih1 ((bif (ltI (qi (x.2.2.1 ((qh x.1 y3 d),(x.2.1,()))) (0,())).1 0)then(qQ .i64 y3 1)else p2.1),((bif (ltI (qi (x.2.2.1 ((qh x.1 y3 d),(x.2.1,()))) (0,())).1 0)then p2.2.1 else y3),())))else none)))else none)else(bif (((!(ltI p2.1 y0))||(inB p2.1 (qs x.1)))&&((!(ltI p2.1 y0))||(qx (x.2.2.1 ((qh x.1 p2.1 d),(x.2.1,()))))))then(some ((p2.1,(((ltI p2.1 y0)&&(eqI (qi (x.2.2.1 ((qh x.1 p2.1 d),(x.2.1,()))) (0,())).1 0)),())),()))else none)))) (0,(y0,())))))
open Classical in
theorem qvw {α β:Type}(d:α) {N:Nat}{xs:List α}{v:β}{φ:(α×(β×Unit))→Option (Int×Unit)}{f:α→Int}(hφ:∀a∈xs,φ (a,(v,()))=some (f a,())) (hm:∀(i j:Nat) (hi:i<xs.length) (hj:j<xs.length),i≤j→0≤f xs[i]→0≤f xs[j]) (hl:xs.length≤1099511627776) (hN:xs.length+1<N):
  ∃k:Nat,k≤xs.length∧(∀(i:Nat) (hi:i<xs.length),i<k→f xs[i]<0)∧(∀(i:Nat) (hi:i<xs.length),k≤i→0≤f xs[i])∧bsF d N (xs,(v,(φ,())))=some (((k:Int),(decide (∃h:k<xs.length,f xs[k]=0),())),()):=by
 have l01:leI 0 1=true:=leT (by omega);simp only[bsF,qJ,l01,cond_true];refine qat (S:=Int×(Int×Unit)) (fun p=>(p.2.1-p.1).toNat) (fun p=>∃a b:Nat,p.1=(a:Int)∧p.2.1=(b:Int)∧a≤b∧b≤xs.length∧(∀(i:Nat) (hi:i<xs.length),i<a→f xs[i]<0)∧(∀(i:Nat) (hi:i<xs.length),b≤i→0≤f xs[i])) (fun r=>∃k:Nat,k≤xs.length∧(∀(i:Nat) (hi:i<xs.length),i<k→f xs[i]<0)∧(∀(i:Nat) (hi:i<xs.length),k≤i→0≤f xs[i])∧r=some (((k:Int),(decide (∃h:k<xs.length,f xs[k]=0),())),())) ?_ N _ ⟨0,xs.length,rfl,by rw[qp],by omega,by omega,fun i hi h=>by omega,fun i hi h=>by omega⟩ (by rw[qp];simp;omega);rintro ih ⟨_,_,⟨⟩⟩ ⟨a,b,rfl,rfl,hab,hbl,h1,h2⟩ hih;simp only at hih⊢
 by_cases hc:a<b
 ·have em:=qjo (x:=(a:Int)) (y:=(b:Int)) (by omega) (by omega) (by omega);have e:((a:Int)+(b:Int))/2=(((a+b)/2:Nat):Int):=by omega
  rw[e]at em;generalize hmd:(a+b)/2=m at em;have hml:m<xs.length:=by omega
  rw[qV (ltT (by omega)),em,qai hml,qY _ hml,hφ _ (zau hml)];simp only[qg,qj,zak,cond_true];by_cases hf:f xs[m]<0
  ·rw[ltT hf];simp only[cond_true,qan (show m<4611686018427387904 by omega)];refine hih _ ⟨m+1,b,rfl,rfl,by omega,hbl,fun i hi him=>?_,h2⟩ (by simp only;omega);rcases Int.lt_or_le (f xs[i]) 0 with q|q
   ·exact q
   ·have:=hm i m hi hml (by omega) q;omega
  ·rw[ltF hf];simp only[cond_false];refine hih _ ⟨a,m,rfl,rfl,by omega,by omega,h1,fun i hi him=>hm m i hml hi him (by omega)⟩ (by simp only;omega)
 ·have:a=b:=by omega
  subst this;rw[qE (ltF (by omega))];refine⟨a,hbl,h1,h2,?_⟩;by_cases hal:a<xs.length
  ·rw[qbK hal,qai hal,qY _ hal,hφ _ (zau hal)];simp only[qg,qj,za4,zak,cond_true,zbd,qaQ,exists_prop_of_true hal]
  ·rw[qbs hal];simp only[zaY,Bool.true_or,zak,cond_true,za7];rw[decide_eq_false (fun ⟨h,_⟩=>hal h)]
end
end Go.Proofs.YtghccmfcndnljaaGreat
namespace Go.Proofs.YtghccmfcndnljaaGreat
open Go.Vi
noncomputable section
abbrev Lt (a b:qba):Prop:=qaa a b<0
structure qkD (x:qgf):Prop where
 tab:qlB x.1 x.2.1=0
 vals:∀e∈x.2.2.1,qeD x.1 x.2.1 e.1=true∧e.2.1≠[]
 keys:∀e∈x.2.2.1,e.2.1.Pairwise Lt∧∀k∈e.2.1,qeD x.1 x.1.2.2.1 k=true
 ord:x.2.2.1.Pairwise fun a b=>Lt a.1 b.1
 nod:(qev x.2.2.1).Nodup
theorem qii {E:Type}{g:Nat→Option E}: {n:Nat}→(∀i,i<n→g i=none)→qae g n=none
 |0,_=>rfl
 |n+1,h=>by
  have e:qae g n=none:=qii fun i hi=>h i (by omega);simp only[qae,e,h n (by omega)]
theorem qq1 {t:qD}{ks:List qba}:qae (qmN t ks) ks.length=none↔ks.Pairwise Lt∧∀k∈ks,qeD t t.2.2.1 k=true:=by
 constructor
 ·intro h;refine⟨qhb _ (fun a b c=>qew a b c) ks fun i hi=>?_,fun k hk=>?_⟩
  ·have:=qbe h (i+1) hi;simp only[qmN]at this;split at this
   ·cases this
   ·split at this
    ·cases this
    ·rename_i hn;simp only[Nat.succ_pos,true_and,Nat.add_sub_cancel,Classical.not_not]at hn;rw[qap _ hi,qap _ (show i<ks.length by omega)]at hn;exact hn
  ·obtain⟨i,hi,rfl⟩:=zaw hk;have:=qbe h i hi;simp only[qmN]at this;split at this
   ·cases this
   ·rename_i hn;rw[qap _ hi]at hn;simpa using hn
 ·rintro⟨h1,h2⟩;refine qii fun i hi=>?_;simp only[qmN];rw[qap _ hi,if_neg (by simp[h2 _ (zau hi)]),if_neg];rintro⟨h0,h3⟩;rw[qap _ (show i-1<ks.length by omega)]at h3;exact h3 (zaQ.1 h1 (i-1) i (by omega) hi (by omega))
theorem qur {t:qD}{cs:List Int}{es:List qe4}{i:Nat}{e:Int}(h:qqi t cs es i=some e):e=3∨e=6:=by
 simp only[qqi]at h;split at h
 ·injection h with h;omega
 ·split at h
  ·injection h with h;omega
  ·obtain⟨j,_,k2,_⟩:=qa7 h;exact qq9 k2
theorem qeW {x:qgf}:qkG x=0↔qkD x:=by
 unfold qkG;constructor
 ·intro h;by_cases ht:qlB x.1 x.2.1≠0
  ·rw[if_pos ht]at h;exact absurd h ht
  rw[if_neg ht]at h;have ht:qlB x.1 x.2.1=0:=Classical.not_not.1 ht;cases hf:qae (qqi x.1 x.2.1 x.2.2.1) x.2.2.1.length with
  |some e=>
   rw[hf]at h;obtain⟨i,_,k2,_⟩:=qa7 hf;have:=qur k2;simp only at h;omega
  |none=>
   rw[hf]at h;simp only at h;have hnd:(qev x.2.2.1).Nodup:=by
    by_cases q:(qev x.2.2.1).Nodup
    ·exact q
    ·rw[if_neg q]at h;cases h
   have ha:∀(i:Nat) (hi:i<x.2.2.1.length),(qeD x.1 x.2.1 (x.2.2.1[i]).1=true∧(x.2.2.1[i]).2.1≠[])∧(0<i→Lt (x.2.2.1.getD (i-1) zE).1 (x.2.2.1[i]).1)∧qae (qmN x.1 (x.2.2.1[i]).2.1) (x.2.2.1[i]).2.1.length=none:=fun i hi=>by
    have:=qbe hf i hi;simp only[qqi,qap _ hi]at this;split at this
    ·cases this
    ·rename_i h1;split at this
     ·cases this
     ·rename_i h2;simp only[not_or,Bool.not_eq_false]at h1;refine⟨⟨h1.1,fun e=>h1.2 (by rw[e];rfl)⟩,fun h0=>?_,this⟩;exact Classical.byContradiction fun q=>h2 ⟨h0,q⟩
   refine⟨ht,fun e he=>?_,fun e he=>?_,?_,hnd⟩
   ·obtain⟨i,hi,rfl⟩:=zaw he;exact(ha i hi).1
   ·obtain⟨i,hi,rfl⟩:=zaw he;exact qq1.1 (ha i hi).2.2
   ·refine qhb (fun a b:qe4=>Lt a.1 b.1) (fun a b c=>qew a.1 b.1 c.1) x.2.2.1 fun i hi=>?_;have:=(ha (i+1) hi).2.1 (by omega);rw[Nat.add_sub_cancel,qap _ (show i<x.2.2.1.length by omega)]at this;exact this
 ·intro h;rw[if_neg (fun q=>q h.tab)];have:qae (qqi x.1 x.2.1 x.2.2.1) x.2.2.1.length=none:=qii fun i hi=>by
   have he:=zau hi;simp only[qqi,qap _ hi];rw[if_neg (by
    have:=h.vals _ he;simp only[this.1,Bool.true_eq_false,false_or];exact fun e=>this.2 (List.length_eq_zero_iff.1 e)),if_neg]
   ·exact qq1.2 (h.keys _ he)
   ·rintro⟨h0,h3⟩;rw[qap _ (show i-1<x.2.2.1.length by omega)]at h3;exact h3 (zaQ.1 h.ord (i-1) i (by omega) hi (by omega))
  rw[this];simp only;rw[if_pos h.nod]
theorem Lt.le {a b c:qba}(h:Lt a b) (h2:0≤qaa a c):0≤qaa b c:=by
 rcases Int.lt_or_le (qaa b c) 0 with q|q
 ·have:=qew a b c h q;omega
 ·exact q
structure At {α:Type}(f:α→Int) (xs:List α) (k:Nat):Prop where
 le:k≤xs.length
 lo:∀(i:Nat) (hi:i<xs.length),i<k→f xs[i]<0
 hi:∀(i:Nat) (hi:i<xs.length),k≤i→0≤f xs[i]
open Classical in
theorem qjS (N:Nat) (ks:List qba) (key:qba) (hs:ks.Pairwise Lt) (hk:SmR ks) (hN:2000000<N) (hB:N≤1099511627776):∃k:Nat,At (fun r=>qaa r key) ks k∧qB N (ks,(key,(phiR N,())))=some (((k:Int),(decide (key∈ks),())),()):=by
 have hl:=hk.1;obtain⟨k,k1,k2,k3,k4⟩:=qvw (N:=N) ([]:qba) (xs:=ks) (v:=key) (φ:=phiR N) (f:=fun r=>qaa r key) (fun a ha=>by
  have:=hk.2 a ha;simp only[phiR,qb7 N a key (by omega) hB,qdR,Option.map_some]) (fun i j hi hj hij h0=>by
   rcases Nat.lt_or_ge i j with q|q
   ·exact(zaQ.1 hs i j hi hj q).le h0
   ·have:i=j:=by omega
    subst this;exact h0) (by omega) (by omega)
 refine⟨k,⟨k1,k2,k3⟩,?_⟩;have e:(∃h:k<ks.length,qaa ks[k] key=0)↔key∈ks:=by
  constructor
  ·rintro⟨h,h2⟩;rw[←(qb6 _ _).1 h2];exact zau h
  ·intro h;obtain⟨i,hi,rfl⟩:=zaw h;have h0:qaa ks[i] ks[i]=0:=(qb6 _ _).2 rfl;have hki:k≤i:=by
    rcases Nat.lt_or_ge i k with q|q
    ·have:=k2 i hi q;omega
    ·exact q
   rcases Nat.lt_or_ge k i with q|q
   ·have h3:=k3 k (by omega) (zay _);have:=zaQ.1 hs k i (by omega) hi q;have h4:Lt ks[k] ks[i]:=this;unfold Lt at h4;omega
   ·have:k=i:=by omega
    subst this;exact⟨hi,h0⟩
 exact k4.trans (by rw[decide_eq_decide.2 e])
open Classical in
theorem qo8 (N:Nat) (x:qgf) (v:qba) (h:SmI N x) (hs:x.2.2.1.Pairwise fun a b=>Lt a.1 b.1):∃k:Nat,At (fun e:qe4=>qaa e.1 v) x.2.2.1 k∧qbS N (x,(v,()))=some (((k:Int),(decide (v∈x.2.2.1.map (·.1)),())),()):=by
 have hn:=h.n;have hb:=h.big;have hes:=h.es;obtain⟨k,k1,k2,k3,k4⟩:=qvw (N:=N) zE (xs:=x.2.2.1) (v:=v) (φ:=fun x0:qe4×(qba×Unit)=>(qhI (fun y1:((Int×Unit)×Unit)=>(y1.1.1,())) (qb1 N (x0.1,(x0.2.1,()))))) (f:=fun e=>qaa e.1 v) (fun a ha=>by
  have:=h.vals a ha;simp only[qb1,qb7 N a.1 v (by omega) hn,qdR,Option.map_some,qg,qj,cond_true]) (fun i j hi hj hij h0=>by
   rcases Nat.lt_or_ge i j with q|q
   ·have h4:Lt (x.2.2.1[i]).1 (x.2.2.1[j]).1:=zaQ.1 hs i j hi hj q;exact h4.le h0
   ·have:i=j:=by omega
    subst this;exact h0) (by omega) (by omega)
 refine⟨k,⟨k1,k2,k3⟩,?_⟩;have e:(∃h:k<x.2.2.1.length,qaa (x.2.2.1[k]).1 v=0)↔v∈x.2.2.1.map (·.1):=by
  constructor
  ·rintro⟨h,h2⟩;rw[←(qb6 _ _).1 h2];exact zaR (zau h)
  ·intro hv;obtain⟨e,he,rfl⟩:=zaS.1 hv;obtain⟨i,hi,rfl⟩:=zaw he;have h0:qaa (x.2.2.1[i]).1 (x.2.2.1[i]).1=0:=(qb6 _ _).2 rfl;have hki:k≤i:=by
    rcases Nat.lt_or_ge i k with q|q
    ·have:=k2 i hi q;omega
    ·exact q
   rcases Nat.lt_or_ge k i with q|q
   ·have h3:=k3 k (by omega) (zay _);have h4:Lt (x.2.2.1[k]).1 (x.2.2.1[i]).1:=zaQ.1 hs k i (by omega) hi q;unfold Lt at h4;omega
   ·have:k=i:=by omega
    subst this;exact⟨hi,h0⟩
 have k4':qad N (x.2.2.1,(v,((fun x0=>(qhI (fun y1=>(y1.1.1,())) (qb1 N (x0.1,(x0.2.1,()))))),())))=some (((k:Int),(decide (∃h:k<x.2.2.1.length,qaa (x.2.2.1[k]).1 v=0),())),()):=k4;simp only[qbS,k4',qg,qj,cond_true];rw[decide_eq_decide.2 e]
open Classical in
theorem qpp (N:Nat) (x:qgf) (key:qba) (h:SmI N x) (hs:∀e∈x.2.2.1,e.2.1.Pairwise Lt):qdN N (x,(key,()))=some ((decide (key∈qev x.2.2.1),()),()):=by
 have hn:=h.n;have hb:=h.big;have hes:=h.es;have h1:∀e∈x.2.2.1,qb0 N (e,(key,()))=some ((decide (key∈e.2.1),()),()):=fun e he=>by
  obtain⟨k,_,k2⟩:=qjS N e.2.1 key (hs e he) (h.smr he) hb hn;have k2':qB N (e.2.1,(key,((fun x0=>(qhI (fun y1=>(y1.1.1,())) (qw N (x0.1,(x0.2.1,()))))),())))=some (((k:Int),(decide (key∈e.2.1),())),()):=k2;simp only[qb0,qJ,k2',qg,qj,cond_true]
 have key2:∃m:Int,qao N (x.2.2.1,((fun x0=>(qhI (fun y1=>(y1.1.1,())) (qb0 N (x0.1,(key,()))))),()))=some ((m,()),())∧(0≤m↔key∈qev x.2.2.1):=by
  have e1:qao N (x.2.2.1,((fun x0=>(qhI (fun y1=>(y1.1.1,())) (qb0 N (x0.1,(key,()))))),()))=match qae (fun i=>if key∈(x.2.2.1.getD i zE).2.1 then some (i:Int)else none) x.2.2.1.length with
    |some e=>some ((e,()),())
    |none=>some ((-1,()),()):=by
   simp only[qao,qJ];refine(qaW (S:=Int×Unit) (fun i=>((i:Int),())) x.2.2.1.length (fun i=>if key∈(x.2.2.1.getD i zE).2.1 then some (i:Int)else none) (fun e=>some ((e,()),())) (some ((-1,()),())) rfl (fun i hi _ ih=>?_) (fun _ ih=>?_) (by omega)).trans ?_
   ·simp only[qbK hi,qai hi,cond_true,qY _ hi,h1 _ (zau hi),qdR,Option.map_some,qg,qj,zak,qap _ hi,qan (show i<4611686018427387904 by omega)];by_cases q:key∈(x.2.2.1[i]).2.1
    ·rw[if_pos q,decide_eq_true q,cond_true]
    ·rw[if_neg q,decide_eq_false q,cond_false]
   ·simp only;rw[qE (qbs (zaW _))]
   ·cases qae (fun i=>if key∈(x.2.2.1.getD i zE).2.1 then some (i:Int)else none) x.2.2.1.length<;>rfl
  rw[e1];cases hf:qae (fun i=>if key∈(x.2.2.1.getD i zE).2.1 then some (i:Int)else none) x.2.2.1.length with
  |none=>
   refine⟨-1,rfl,⟨fun h=>by omega,fun hk=>?_⟩⟩;obtain⟨e,he,hke⟩:=za2.1 hk;obtain⟨i,hi,rfl⟩:=zaw he;have:=qbe hf i hi;rw[qap _ hi,if_pos hke]at this;cases this
  |some m=>
   obtain⟨i,hi,k2,_⟩:=qa7 hf;split at k2
   ·rename_i hke;injection k2 with k2;subst k2;rw[qap _ hi]at hke;exact⟨_,rfl,⟨fun _=>za2.2 ⟨_,zau hi,hke⟩,fun _=>by omega⟩⟩
   ·cases k2
 obtain⟨m,m1,m2⟩:=key2;simp only[qdN,qaH,m1,qg,qj,cond_true,qdX];rw[decide_eq_decide.2 m2]
end
end Go.Proofs.YtghccmfcndnljaaGreat
namespace Go.Proofs.YtghccmfcndnljaaGreat
open Go.Vi
noncomputable section
abbrev zX:qgf:=((([]:List UInt8),(([]:List qd),(([]:List Int),()))),(([]:List Int),(([]:List qb),())))
theorem qui {t:qD}{r:qba}{i:Nat}{e:Int}(h:qrY t r i=some e):e=8∨e=7:=by
 simp only[qrY]at h;split at h
 ·injection h with h;omega
 ·split at h
  ·injection h with h;omega
  ·cases h
theorem qfr {t:qD}{r:qba}(h:qeu t r=0):qfb r=0∧r.length=t.2.1.length∧qae (qrY t r) r.length=none:=by
 unfold qeu at h;split at h
 ·rename_i h1;exact absurd h h1
 rename_i h1;split at h
 ·cases h
 rename_i h2;refine⟨Classical.not_not.1 h1,Classical.not_not.1 h2,?_⟩;cases hf:qae (qrY t r) r.length with
 |none=>rfl
 |some e=>
  rw[hf]at h;obtain⟨i,_,k2,_⟩:=qa7 hf;have:=qui k2;simp only at h;omega
inductive InsR (v key:qba) (es:List qe4):List qe4→Prop where
 |old (A B:List qe4) (k1 k2:List qba) (he:es=A++(v,(k1++k2,()))::B) (h1:∀k∈k1,Lt k key) (h2:∀k∈k2,Lt key k):InsR v key es (A++(v,(k1++key::k2,()))::B)
 |new (A B:List qe4) (he:es=A++B) (h1:∀e∈A,Lt e.1 v) (h2:∀e∈B,Lt v e.1):InsR v key es (A++(v,([key],()))::B)
theorem qqM {ks:List qba}{key:qba}{k:Nat}(h:At (fun r=>qaa r key) ks k) (hn:key∉ks):(∀r∈ks.take k,Lt r key)∧∀r∈ks.drop k,Lt key r:=by
 constructor
 ·intro r hr;obtain⟨i,hi,rfl⟩:=zaw hr;rw[zaf]at hi;rw[List.getElem_take];exact h.lo i (by omega) (by omega)
 ·intro r hr;obtain⟨i,hi,rfl⟩:=zaw hr;rw[zap]at hi;rw[List.getElem_drop];have h3:=h.hi (k+i) (by omega) (by omega);have h4:qaa ks[k+i] key≠0:=fun e=>hn (by rw[←(qb6 _ _).1 e];exact zau _);show qaa key ks[k+i]<0;rw[qfk];omega
open Classical in
theorem qo3 (N:Nat) (x:qgf) (r:qba) (h:SmI N x) (hx:qkG x=0) (hr:qeu x.1 r=0) (hk:qgv x.1.2.2.1 r∉qev x.2.2.1):
  ∃es',InsR (qcu r x.2.1) (qgv x.1.2.2.1 r) x.2.2.1 es'∧qN N (x,(r,()))=some (((x.1,(x.2.1,(es',()))),(0,())),()):=by
 have g:=qeW.1 hx;have hn:=h.n;have hb:=h.big;have hp:=h.pk;have hco:=h.cols;have hcs:=h.cs;have hes:=h.es;have hkk:=h.keys;obtain⟨t1,t2,t3,t4⟩:=qdP g.tab;obtain⟨r1,r2,r3⟩:=qfr hr;have hIn:InR r.length x.2.1:=by rw[r2];exact t3
 obtain⟨k,kA,kE⟩:=qo8 N x (qcu r x.2.1) h g.ord;have kAl:=kA.le;generalize hv:qcu r x.2.1=v at *
 generalize hky:qgv x.1.2.2.1 r=key at *
 have hkl:key.length≤1048576:=by rw[←hky,qqP];omega
 have e1:=qdn N x h;have e2:=qcQ N x.1 r (by omega) (by omega) hn;have e3:=qtI N x.1 r (by omega) hn;have e4:=qpp N x key h (fun e he=>(g.keys e he).1);have e5:=qnr N x h;have e6:=qnb N r x.2.1 hIn hcs hb;rw[hx]at e1;rw[hr]at e2;rw[hky]at e3;rw[decide_eq_false hk]at e4;rw[hv]at e6;have e7:=qsO N key (by omega);obtain⟨⟨nm,cols,pk,⟨⟩⟩,cs,es,⟨⟩⟩:=x;simp only at kE kA kAl e1 e2 e3 e4 e5 e6 hes hkk hk;have z:neI 0 0=false:=by rw[qaC];rfl
 by_cases hf:v∈es.map (·.1)
 ·rw[decide_eq_true hf]at kE;obtain⟨e0,he0,hev⟩:=zaS.1 hf;obtain⟨j,hj,hje⟩:=zaw he0;have hkj:k=j:=by
   have h0:qaa (es[j]).1 v=0:=by rw[hje,hev];exact(qb6 _ _).2 rfl
   have hkj:k≤j:=by
    rcases Nat.lt_or_ge j k with q|q
    ·have:=kA.lo j hj q;omega
    ·exact q
   rcases Nat.lt_or_ge k j with q|q
   ·have h3:=kA.hi k (by omega) (zay _);have h4:Lt (es[k]).1 (es[j]).1:=zaQ.1 g.ord k j (by simpa using(show k<es.length by omega)) hj q;rw[hje,hev]at h4;unfold Lt at h4;omega
   ·omega
  subst hkj;have hmem:es[k]∈es:=zau hj;have hsk:SmR (es[k]).2.1:=h.smr hmem;have hskl:=hsk.1;have hkn:key∉(es[k]).2.1:=fun q=>hk (za2.2 ⟨_,hmem,q⟩);obtain⟨k2,k2A,k2E⟩:=qjS N (es[k]).2.1 key ((g.keys _ hmem).1) hsk hb hn;rw[decide_eq_false hkn]at k2E;have k2l:=k2A.le;have k2E':qB N ((es[k]).2.1,(key,((fun x0=>(qhI (fun y1=>(y1.1.1,())) (qw N (x0.1,(x0.2.1,()))))),())))=some (((k2:Int),(false,())),()):=k2E;have e8:qaP N ((es[k]).2.1,((k2:Int),(([key]:List qba),())))=some (((es[k]).2.1.take k2++[key]++(es[k]).2.1.drop k2,()),()):=by
   simp only[qaP];rw[if_pos ⟨by omega,by omega,by simp;omega⟩];simp only[zaJ]
  have ekk:eqI (k:Int) (k:Int)=true:=by rw[qaQ];simp
  refine⟨es.take k++(v,((es[k]).2.1.take k2++key::(es[k]).2.1.drop k2,()))::es.drop (k+1),?_,?_⟩
  ·refine .old (es.take k) (es.drop (k+1)) _ _ ?_ (qqM k2A hkn).1 (qqM k2A hkn).2;rw[zaK];have:es[k]=(v,((es[k]).2.1,())):=by
    have h5:(es[k]).1=v:=by rw[hje,hev]
    rw[←h5]
   rw[←this,←zaO hj,zaK]
  ·simp only[qN,qJ,e1,e2,e3,e4,e5,e6,kE,e7,z,qg,qj,cond_true,cond_false,zaT,qai hj,qY _ hj,k2E',e8,ekk,zak];rw[qbL,zaJ,List.set_eq_take_append_cons_drop,if_pos hj];have h5:(es[k]).1=v:=by rw[hje,hev]
   rw[h5];simp[zaC]
 ·rw[decide_eq_false hf]at kE;have e8:qA N (es,((k:Int),(([(v,(([]:List qba),()))]:List qe4),())))=some ((es.take k++[(v,(([]:List qba),()))]++es.drop k,()),()):=by
   simp only[qA];rw[if_pos ⟨by omega,by omega,by simp;omega⟩];simp only[zaJ]
  generalize hes1:es.take k++[(v,(([]:List qba),()))]++es.drop k=es1 at e8;have hlt:(es.take k).length=k:=by rw[zaf];omega
  have hk1:k<es1.length:=by rw[←hes1];simp;omega
  have hge:es1[k]=(v,(([]:List qba),())):=by
   have:es1[k]? =some (v,(([]:List qba),())):=by
    rw[←hes1,zaC,zaL (by omega),hlt,Nat.sub_self];rfl
   rw[zaa hk1]at this;exact zbg.inj this
  obtain⟨k2,k2A,k2E⟩:=qjS N [] key List.Pairwise.nil ⟨by simp,by simp⟩ hb hn;have hk2:k2=0:=by have:=k2A.le;simpa using this
  subst hk2;have k2E':qB N (([]:List qba),(key,((fun x0=>(qhI (fun y1=>(y1.1.1,())) (qw N (x0.1,(x0.2.1,()))))),())))=some (((0:Int),(false,())),()):=by
   have:=k2E;rw[decide_eq_false (by simp)]at this;exact this
  have e9:qaP N (([]:List qba),((0:Int),(([key]:List qba),())))=some (([key],()),()):=by
   simp only[qaP];rw[if_pos ⟨by omega,by simp,by simp⟩];rfl
  have ekk:eqI (k:Int) (k:Int)=true:=by rw[qaQ];simp
  refine⟨es.take k++(v,([key],()))::es.drop k,?_,?_⟩
  ·refine .new (es.take k) (es.drop k) (zaK k es).symm (fun e he=>?_) (fun e he=>?_)
   ·obtain⟨i,hi,rfl⟩:=zaw he;rw[zaf]at hi;rw[List.getElem_take];exact kA.lo i (by omega) (by omega)
   ·obtain⟨i,hi,rfl⟩:=zaw he;rw[zap]at hi;rw[List.getElem_drop];have h3:=kA.hi (k+i) (by omega) (by omega);have h4:qaa (es[k+i]).1 v≠0:=fun e=>hf (by rw[←(qb6 _ _).1 e];exact zaR (zau _));show qaa v (es[k+i]).1<0;rw[qfk];omega
  ·simp only[qN,qJ,e1,e2,e3,e4,e5,e6,kE,e7,z,qg,qj,cond_true,cond_false,zaY,e8,qai hk1,qY _ hk1,hge,k2E',e9,ekk,zak];rw[qbL,zaJ,List.set_eq_take_append_cons_drop,if_pos hk1,←hes1];have f1:(es.take k++[(v,(([]:List qba),()))]++es.drop k).take k=es.take k:=by
    rw[zaC,zaG (by omega),zas (by omega)]
   have f2:(es.take k++[(v,(([]:List qba),()))]++es.drop k).drop (k+1)=es.drop k:=by
    rw[List.drop_append,zag,hlt];simp[za1,hlt]
   rw[f1,f2]
end
end Go.Proofs.YtghccmfcndnljaaGreat
namespace Go.Proofs.YtghccmfcndnljaaGreat
open Go.Vi
noncomputable section
def qav (es:List qe4):List DIR:=es.flatMap fun e=>e.2.1.map fun k=>(e.1,(k,()))
def qfX (a b:DIR):Int:=if qaa a.1 b.1≠0 then qaa a.1 b.1 else qaa a.2.1 b.2.1
abbrev LtR (a b:DIR):Prop:=qfX a b<0
theorem qnH (a b:DIR):qfX b a= - qfX a b:=by
 unfold qfX;have h1:=qfk a.1 b.1;have h2:=qfk a.2.1 b.2.1;by_cases h:qaa a.1 b.1=0
 ·rw[if_neg (by omega),if_neg (by omega)];omega
 ·rw[if_pos (by omega),if_pos (by omega)];omega
theorem qkn (a b:DIR):qfX a b=0↔a=b:=by
 obtain⟨a1,a2,⟨⟩⟩:=a;obtain⟨b1,b2,⟨⟩⟩:=b;unfold qfX;simp only[zbh.injEq,and_true];by_cases h:qaa a1 b1=0
 ·rw[if_neg (by omega),qb6];exact⟨fun q=>⟨(qb6 _ _).1 h,q⟩,fun q=>q.2⟩
 ·rw[if_pos h];exact⟨fun q=>absurd q h,fun q=>absurd ((qb6 _ _).2 q.1) h⟩
theorem qiM {a b c:DIR}(h1:LtR a b) (h2:LtR b c):LtR a c:=by
 unfold LtR qfX at *
 by_cases e1:qaa a.1 b.1=0
 ·have:=(qb6 _ _).1 e1;rw[if_neg (by omega)]at h1;rw[this];by_cases e2:qaa b.1 c.1=0
  ·rw[if_neg (by omega)]at h2⊢
   exact qew _ _ _ h1 h2
  ·rw[if_pos e2]at h2⊢
   exact h2
 ·rw[if_pos e1]at h1;by_cases e2:qaa b.1 c.1=0
  ·have:=(qb6 _ _).1 e2;rw[←this,if_pos e1];exact h1
  ·rw[if_pos e2]at h2;have:=qew _ _ _ h1 h2;rw[if_pos (by omega)];exact this
theorem LtR.irr {a:DIR}:¬LtR a a:=by unfold LtR;rw[(qkn a a).2 rfl];omega
theorem qjm: {l m:List DIR}→l.Perm m→l.Pairwise LtR→m.Pairwise LtR→l=m
 |[],m,h,_,_=>(List.nil_perm.1 h).symm
 |a::l,[],h,_,_=>absurd h.length_eq (by simp)
 |a::l,b::m,h,h1,h2=>by
  have hab:a=b:=by
   have ha:a∈b::m:=h.mem_iff.1 zai;have hb:b∈a::l:=h.mem_iff.2 zai;rcases zam.1 ha with e|ha
   ·exact e
   rcases zam.1 hb with e|hb
   ·exact e.symm
   exact absurd (qiM ((List.pairwise_cons.1 h1).1 b hb) ((List.pairwise_cons.1 h2).1 a ha)) LtR.irr
  subst hab;rw[qjm ((List.perm_cons a).1 h) (List.pairwise_cons.1 h1).2 (List.pairwise_cons.1 h2).2]
theorem qlG {es:List qe4}(h1:∀e∈es,e.2.1.Pairwise Lt) (h2:es.Pairwise fun a b=>Lt a.1 b.1):(qav es).Pairwise LtR:=by
 unfold qav;refine List.pairwise_flatMap.2 ⟨fun e he=>?_,h2.imp fun {a b} hab x hx y hy=>?_⟩
 ·refine List.pairwise_map.2 ((h1 e he).imp fun {a b} hab=>?_);show qfX (e.1,(a,())) (e.1,(b,()))<0;unfold qfX;rw[if_neg (by simp only[(qb6 e.1 e.1).2 rfl];omega)];exact hab
 ·obtain⟨k,_,rfl⟩:=zaS.1 hx;obtain⟨k',_,rfl⟩:=zaS.1 hy;show qfX (a.1,(k,())) (b.1,(k',()))<0;unfold qfX;have hab:qaa a.1 b.1<0:=hab;rw[if_pos (by simp only;omega)];exact hab
theorem qco (A B:List qe4):qav (A++B)=qav A++qav B:=by unfold qav;exact List.flatMap_append
theorem qdr (e:qe4) (B:List qe4):qav (e::B)=(e.2.1.map fun k=>((e.1,(k,())):DIR))++qav B:=by unfold qav;exact List.flatMap_cons
theorem qhN (e:qe4) (B:List qe4):qev (e::B)=e.2.1++qev B:=by unfold qev;exact List.flatMap_cons
theorem qe2 (es:List qe4):(qav es).map (fun r=>r.2.1)=qev es:=by
 induction es with
 |nil=>rfl
 |cons e es ih=>rw[qdr,qhN,za3,ih,List.map_map];simp[Function.comp_def]
theorem qoE {v key:qba}{es es':List qe4}(h:InsR v key es es'):(qav es').Perm ((v,(key,()))::qav es):=by
 cases h with
 |old A B k1 k2 he h1 h2=>
  subst he;rw[qco,qco,qdr,qdr];simp only[za3,zaZ];refine List.perm_iff_count.2 fun x=>?_;simp only[List.count_append,List.count_cons];omega
 |new A B he h1 h2=>
  subst he;rw[qco,qco,qdr];refine List.perm_iff_count.2 fun x=>?_;simp only[zaZ,List.map_nil,List.count_append,List.count_cons,List.count_nil];omega
theorem quC {v key:qba}{es es':List qe4}(h:InsR v key es es'):(qev es').Perm (key::qev es):=by
 have:=(qoE h).map (fun r=>r.2.1);rw[qe2,zaZ,qe2]at this;exact this
theorem qqD {x:qgf}{v key:qba}{es':List qe4}(g:qkD x) (hv:qeD x.1 x.2.1 v=true) (hk:qeD x.1 x.1.2.2.1 key=true) (hn:key∉qev x.2.2.1) (h:InsR v key x.2.2.1 es'):qkD (x.1,(x.2.1,(es',()))):=by
 obtain⟨g1,g2,g3,g4,g5⟩:=g;obtain⟨t,cs,es,⟨⟩⟩:=x;simp only at g1 g2 g3 g4 g5 hv hk hn h;have hnod:(qev es').Nodup:=(quC h).nodup_iff.2 (zax.2 ⟨hn,g5⟩);cases h with
 |old A B k1 k2 he h1 h2=>
  subst he;have hm:(v,(k1++k2,()))∈A++(v,(k1++k2,()))::B:=by simp
  refine⟨g1,fun e he=>?_,fun e he=>?_,?_,hnod⟩
  ·simp only[zaj,zam]at he;rcases he with he|rfl|he
   ·exact g2 e (by simp[he])
   ·exact⟨hv,by simp⟩
   ·exact g2 e (by simp[he])
  ·simp only[zaj,zam]at he;rcases he with he|rfl|he
   ·exact g3 e (by simp[he])
   ·obtain⟨p1,p2⟩:=g3 _ hm;simp only at p1 p2;obtain⟨q1,q2,q3⟩:=List.pairwise_append.1 p1;refine⟨List.pairwise_append.2 ⟨q1,List.pairwise_cons.2 ⟨h2,q2⟩,fun a ha b hb=>?_⟩,fun k hk'=>?_⟩
    ·rcases zam.1 hb with rfl|hb
     ·exact h1 a ha
     ·exact q3 a ha b hb
    ·simp only[zaj,zam]at hk';rcases hk' with q|rfl|q
     ·exact p2 k (by simp[q])
     ·exact hk
     ·exact p2 k (by simp[q])
   ·exact g3 e (by simp[he])
  ·obtain⟨q1,q2,q3⟩:=List.pairwise_append.1 g4;obtain⟨q4,q5⟩:=List.pairwise_cons.1 q2;refine List.pairwise_append.2 ⟨q1,List.pairwise_cons.2 ⟨q4,q5⟩,fun a ha b hb=>?_⟩;rcases zam.1 hb with rfl|hb
   ·exact q3 a ha (v,(k1++k2,())) zai
   ·exact q3 a ha b (zae _ hb)
 |new A B he h1 h2=>
  subst he;refine⟨g1,fun e he=>?_,fun e he=>?_,?_,hnod⟩
  ·simp only[zaj,zam]at he;rcases he with he|rfl|he
   ·exact g2 e (by simp[he])
   ·exact⟨hv,by simp⟩
   ·exact g2 e (by simp[he])
  ·simp only[zaj,zam]at he;rcases he with he|rfl|he
   ·exact g3 e (by simp[he])
   ·exact⟨by simp,fun k hk'=>by rw[zat.1 hk'];exact hk⟩
   ·exact g3 e (by simp[he])
  ·obtain⟨q1,q2,q3⟩:=List.pairwise_append.1 g4;refine List.pairwise_append.2 ⟨q1,List.pairwise_cons.2 ⟨fun b hb=>h2 b hb,q2⟩,fun a ha b hb=>?_⟩;rcases zam.1 hb with rfl|hb
   ·exact h1 a ha
   ·exact q3 a ha b hb
theorem qkN: {r:qba}→(∀v∈r,qsj v=0)→qcR r=0
 |[],_=>rfl
 |v::r,h=>by
  rw[qcR,if_neg (fun q=>q (h v zai))];exact qkN fun u hu=>h u (zae _ hu)
theorem qsL:(n:Nat)→(l:List Int)→l.Nodup→(∀k∈l,0≤k∧k<(n:Int))→l.length≤n
 |0,[],_,_=>by simp
 |0,k::l,_,h=>by have:=h k zai;omega
 |n+1,l,hn,h=>by
  have h1:=qsL n (l.erase (n:Int)) (hn.erase _) fun k hk=>by
   have h2:=h k (List.mem_of_mem_erase hk);have h3:k≠(n:Int):=fun e=>by rw[e]at hk;exact(List.Nodup.not_mem_erase hn) hk
   omega
  have:=List.length_erase (a:=(n:Int)) (l:=l);split at this<;>omega
theorem qlJ {t:qD}{cs:List Int}(h:qlB t cs=0):cs.length≤6∧t.2.2.1.length≤6:=by
 obtain⟨h6,hp,hc,hord⟩:=qdP h;have hcn:cs.Nodup:=by
  unfold qlB at h;rw[if_neg (by omega)]at h;split at h
  ·rename_i e he;obtain⟨i,_,k2,_⟩:=qa7 he;simp only[pkG]at k2;split at k2
   ·injection k2 with k2;omega
   ·cases k2
  split at h
  ·cases h
  split at h
  ·rename_i e he;obtain⟨i,_,k2,_⟩:=qa7 he;simp only[qoG]at k2;split at k2
   ·injection k2 with k2;omega
   ·cases k2
  rename_i hf;refine List.nodup_iff_pairwise_ne.2 (zaQ.2 fun i j hi hj hij e=>?_);have:=qbe hf j hj;simp only[qoG]at this;split at this
  ·cases this
  ·rename_i hn;rw[qap _ hj]at hn;simp only[not_or]at hn;exact hn.2.2 (zaU (i:=i) (by rw[zal,if_pos hij,zaa hi,e]))
 have hpn:t.2.2.1.Nodup:=by
  have:t.2.2.1.Pairwise (fun a b=>a<b):=qhb _ (fun a b c h1 h2=>by omega) _ fun i hi=>by
   have:=hord i hi;rw[qap _ hi,qap _ (show i<t.2.2.1.length by omega)]at this;exact this
  exact List.nodup_iff_pairwise_ne.2 (this.imp fun {a b} h e=>by omega)
 have h1:=qsL _ cs hcn hc;have h2:=qsL _ t.2.2.1 hpn hp;omega
theorem qri {r:qba}{pk:List Int}(h:InR r.length pk):qgv pk r=qcu r pk:=by
 unfold qgv qcu;refine List.map_congr_left fun k hk=>?_;have:=h k hk;unfold qsI;rw[dif_pos this];obtain⟨m,rfl⟩:∃m:Nat,k=(m:Int):=⟨k.toNat,by omega⟩;have hm:m<r.length:=by omega
 simp only[zaJ];rw[qY _ hm]
theorem qlt {t:qD}{cs:List Int}{r:qba}(hr:qeu t r=0) (hc:InR t.2.1.length cs) (hl:cs.length≤12):qeD t cs (qcu r cs)=true:=by
 obtain⟨r1,r2,r3⟩:=qfr hr;have hrl:¬12<r.length:=fun q=>by unfold qfb at r1;rw[if_pos q]at r1;cases r1
 have hz:∀v∈r,qsj v=0:=by
  unfold qfb at r1;rw[if_neg hrl]at r1;exact qjH r1
 have hmem:∀k∈cs,∃(m:Nat) (h1:m<r.length) (h2:m<t.2.1.length),k=(m:Int):=fun k hk=>by
  have:=hc k hk;exact⟨k.toNat,by omega,by omega,by omega⟩
 unfold qeD;rw[decide_eq_true (by simp[qcu]),decide_eq_true,zbd,zbd,Option.isNone_iff_eq_none]
 ·refine qii fun i hi=>?_;have hi':i<cs.length:=by simpa[qcu]using hi
  obtain⟨m,m1,m2,me⟩:=hmem cs[i] (zau hi');have e1:(qcu r cs).getD i zV=r[m]:=by
   rw[qap _ hi];simp only[qcu,List.getElem_map];rw[me,qY _ m1]
  unfold qt9;rw[e1,qap _ hi',me,qY _ m2,if_pos];have:=qbe r3 m m1;simp only[qrY,qap _ m1,qap _ m2]at this;unfold quJ;by_cases q1:(r[m]).1=0
  ·by_cases q2:(t.2.1[m]).2.2.1=false
   ·rw[if_pos ⟨q1,q2⟩]at this;cases this
   ·simp[q1,q2]
  ·rw[if_neg (fun q=>q1 q.1)]at this;by_cases q2:(r[m]).1=(t.2.1[m]).2.1
   ·simp[q2]
   ·rw[if_pos ⟨q1,q2⟩]at this;cases this
 ·unfold qfb;rw[if_neg (by simp[qcu];omega)];refine qkN fun v hv=>?_;obtain⟨k,hk,rfl⟩:=zaS.1 hv;obtain⟨m,m1,_,rfl⟩:=hmem k hk;rw[qY _ m1];exact hz _ (zau m1)
end
end Go.Proofs.YtghccmfcndnljaaGreat
namespace Go.Proofs.YtghccmfcndnljaaGreat
open Go.Vi
noncomputable section
theorem qj6 {E:Type}{g:Nat→Option E}{e:E}{i:Nat}(h1:qae g i=none) (h2:g i=some e):∀ {n:Nat},i<n→qae g n=some e
 |0,h=>by omega
 |n+1,h=>by
  by_cases q:i=n
  ·subst q;simp only[qae,h1,h2]
  ·have:=qj6 h1 h2 (n:=n) (by omega);simp only[qae,this]
theorem qnJ (N:Nat) (x:qgf) (r:qba) (h:SmI N x) (hx:qkG x=0) (hr:qeu x.1 r≠0):qN N (x,(r,()))=some ((zX,(qeu x.1 r,())),()):=by
 have hn:=h.n;have hb:=h.big;have hco:=h.cols;have e1:=qdn N x h;have e2:=qcQ N x.1 r (by omega) (by omega) hn;rw[hx]at e1;have z:neI 0 0=false:=by rw[qaC];rfl
 have z2:neI (qeu x.1 r) 0=true:=by rw[qaC];simp[hr]
 simp only[qN,qJ,e1,e2,z,z2,qg,qj,cond_true,cond_false]
theorem qnj (N:Nat) (x:qgf) (r:qba) (h:SmI N x) (hx:qkG x=0) (hr:qeu x.1 r=0) (hk:qgv x.1.2.2.1 r∈qev x.2.2.1):qN N (x,(r,()))=some ((zX,(9,())),()):=by
 have g:=qeW.1 hx;have hn:=h.n;have hb:=h.big;have hp:=h.pk;have hco:=h.cols;have e1:=qdn N x h;have e2:=qcQ N x.1 r (by omega) (by omega) hn;have e3:=qtI N x.1 r (by omega) hn;have e4:=qpp N x (qgv x.1.2.2.1 r) h (fun e he=>(g.keys e he).1);rw[hx]at e1;rw[hr]at e2;rw[decide_eq_true hk]at e4;have z:neI 0 0=false:=by rw[qaC];rfl
 simp only[qN,qJ,e1,e2,e3,e4,z,qg,qj,cond_true,cond_false]
theorem qqU {t:qD}{cs:List Int}{r:qba}(h:qeD t cs r=true):r.length=cs.length:=by
 unfold qeD at h;simp only[zad,decide_eq_true_eq]at h;exact h.1
theorem qvB: {es:List qe4}→(∀e∈es,e.2.1≠[])→es.length≤(qev es).length
 |[],_=>by simp
 |e::es,h=>by
  rw[qhN,zag];have h1:=qvB (es:=es) fun e he=>h e (zae _ he);have h2:=List.length_pos_iff.2 (h e zai);simp only[zba];omega
theorem qqY {N:Nat}{x:qgf}(h:Sm N x.1) (g:qkD x) (hl:(qev x.2.2.1).length≤1048576):SmI N x:=by
 have ⟨h1,h2⟩:=qlJ g.tab;refine { toSm:=h,cs:=by omega,es:= ?_,vals:=fun e he=>?_,keys:=hl,krow:=fun k hk=>?_ }
 ·have:=qvB fun e he=>(g.vals e he).2;omega
 ·have:=qqU (g.vals e he).1;omega
 ·obtain⟨e,he,hke⟩:=za2.1 hk;have:=qqU ((g.keys e he).2 k hke);omega
theorem qqR {t:qD}{cs:List Int}(h:qlB t cs=0):qkD (t,(cs,([],()))):=⟨h,by simp,by simp,by simp,by simp[qev]⟩
theorem new_eq (N:Nat) (t:qD) (cs:List Int) (h:Sm N t) (hc:cs.length≤1048576):qce N (t,(cs,()))=if qlB t cs=0 then some (((t,(cs,([],()))),(0,())),())else some ((zX,(qlB t cs,())),()):=by
 have hn:=h.n;have hb:=h.big;have hp:=h.pk;have e1:=qjY N t cs (by omega) (by omega) hn;by_cases ht:qlB t cs=0
 ·rw[if_pos ht];rw[ht]at e1;have z:neI 0 0=false:=by rw[qaC];rfl
  have e2:=qnr N (t,(cs,([],()))) (qqY h (qqR ht) (by simp[qev]));simp only[qce,qJ,e1,e2,z,qg,qj,cond_true,cond_false]
 ·rw[if_neg ht];have z2:neI (qlB t cs) 0=true:=by rw[qaC];simp[ht]
  simp only[qce,qJ,e1,z2,qg,qj,cond_true,cond_false]
def prow (t:qD) (cs:List Int) (r:qba):DIR:=(qcu r cs,(qgv t.2.2.1 r,()))
open Classical in
def qvr (t:qD) (rows:List qba) (i:Nat):Option Int:=if qeu t (rows.getD i [])≠0 then some (qeu t (rows.getD i []))else if qgv t.2.2.1 (rows.getD i [])∈(rows.take i).map (qgv t.2.2.1)then some 9 else none
def BRes (t:qD) (cs:List Int) (rows:List qba) (r:Option ((qgf×(Int×Unit))×Unit)):Prop:=
 (∃e,qae (qvr t rows) rows.length=some e∧r=some ((zX,(e,())),()))∨
 (qae (qvr t rows) rows.length=none∧∃es,qkD (t,(cs,(es,())))∧(qav es).Perm (rows.map (prow t cs))∧r=some (((t,(cs,(es,()))),(0,())),()))
theorem qu5 (N:Nat) (t:qD) (cs:List Int) (rows:List qba) (h:Sm N t) (hc:cs.length≤1048576) (ht:qlB t cs=0) (hl:rows.length≤24):BRes t cs rows (qaT N (t,(cs,(rows,())))):=by
 have hn:=h.n;have hb:=h.big;obtain⟨t1,t2,t3,t4⟩:=qdP ht;obtain⟨s1,s2⟩:=qlJ ht;have e1:=new_eq N t cs h hc;rw[if_pos ht]at e1;have z:neI 0 0=false:=by rw[qaC];rfl
 simp only[qaT,qJ,e1,z,qg,qj,cond_true,cond_false];rw[qE (by rw[qbD,qp];exact decide_eq_false (by omega))];refine qat (S:=qgf×(qgf×(Int×Unit))) (fun p=>rows.length-p.2.2.1.toNat) (fun p=>∃(i:Nat) (es:List qe4),p=(zX,((t,(cs,(es,()))),((i:Int),())))∧i≤rows.length∧qae (qvr t rows) i=none∧qkD (t,(cs,(es,())))∧(qav es).Perm ((rows.take i).map (prow t cs))) (BRes t cs rows) ?_ N _ ⟨0,[],rfl,by omega,rfl,qqR ht,by simp[qav]⟩ (by simp;omega);rintro ih _ ⟨i,es,rfl,hi,hf,g,hp⟩ hih;have hak:qev es=(qav es).map fun r=>r.2.1:=(qe2 es).symm;have hkp:(qev es).Perm ((rows.take i).map (qgv t.2.2.1)):=by
  rw[hak];have:=hp.map (fun r:DIR=>r.2.1);rw[List.map_map]at this;exact this
 have hkl:(qev es).length≤24:=by rw[hkp.length_eq,List.length_map,zaf];omega
 have hsm:SmI N (t,(cs,(es,()))):=qqY h g (by simp only;omega);have hidx:=qeW.2 g;simp only[zaJ]at hih⊢
 by_cases hil:i<rows.length
 ·simp only[qbK hil,qai hil,cond_true,qY _ hil];by_cases hr:qeu t rows[i]=0
  ·by_cases hk:qgv t.2.2.1 rows[i]∈qev es
   ·have e2:=qnj N (t,(cs,(es,()))) rows[i] hsm hidx hr hk;have z9:neI 9 0=true:=by rw[qaC];rfl
    simp only[e2,qg,qj,cond_true,z9];refine .inl ⟨9,qj6 hf ?_ hil,rfl⟩;unfold qvr;rw[qap _ hil,if_neg (fun q=>q hr),if_pos (hkp.mem_iff.1 hk)]
   ·obtain⟨es',hins,e2⟩:=qo3 N (t,(cs,(es,()))) rows[i] hsm hidx hr hk;simp only at e2 hins;simp only[e2,qg,qj,cond_true,cond_false,z,qan (show i<4611686018427387904 by omega)];have hInp:InR (rows[i]).length t.2.2.1:=by rw[(qfr hr).2.1];exact t2
    refine hih _ ⟨i+1,es',rfl,hil,?_,?_,?_⟩ (by simp only[zaJ];omega)
    ·simp only[qae,hf];unfold qvr;rw[qap _ hil,if_neg (fun q=>q hr),if_neg (fun q=>hk (hkp.mem_iff.2 q))]
    ·refine qqD g (qlt hr t3 (show cs.length≤12 by omega)) ?_ hk hins;rw[qri hInp];exact qlt hr t2 (show t.2.2.1.length≤12 by omega)
    ·refine(qoE hins).trans ?_;rw[qb2 hil,za3];refine(List.Perm.cons _ hp).trans ?_;exact(List.perm_append_singleton _ _).symm
  ·have e2:=qnJ N (t,(cs,(es,()))) rows[i] hsm hidx hr;simp only at e2;have z2:neI (qeu t rows[i]) 0=true:=by rw[qaC];simp[hr]
   simp only[e2,qg,qj,cond_true,z2];refine .inl ⟨qeu t rows[i],qj6 hf ?_ hil,rfl⟩;unfold qvr;rw[qap _ hil,if_pos hr]
 ·have hie:i=rows.length:=by omega
  subst hie;simp only[qbs (zaW _),cond_false];rw[za5]at hp;exact .inr ⟨hf,es,g,hp,rfl⟩
theorem qoh (N:Nat) (hB:N≤1099511627776) (hN:2000000<N):qaS N ()=some ((true,()),()):=by
 let t:qD:=(([97]:List UInt8),(([(([107]:List UInt8),(1,(false,()))),(([116]:List UInt8),(3,(true,())))]:List qd),(([0]:List Int),())));let rw0:qba:=[(1,(5,(([]:List UInt8),()))),(3,(0,(([113]:List UInt8),())))];have ht:qlB t [1]=0:=by simp[t,qlB,qae,pkG,qoG]
 have hr:qeu t rw0=0:=by simp[t,rw0,qeu,qfb,qcR,qsj,qae,qrY]
 have hbd:=qu5 N t [1] [rw0] ⟨hB,hN,by simp[t],by simp[t]⟩ (by simp) ht (by simp);have hf:qae (qvr t [rw0]) [rw0].length=none:=by
  simp only[zba,List.length_nil,qae];unfold qvr;simp[hr]
 rcases hbd with⟨e,h1,_⟩|⟨_,es,g,hp,he⟩
 ·rw[hf]at h1;cases h1
 have hk:(qev es).length=1:=by
  rw[←qe2,List.length_map,hp.length_eq];rfl
 have hes:∃a k,es=[(a,([k],()))]:=by
  have hv:=g.vals;simp only at hv;cases es with
  |nil=>simp[qev]at hk
  |cons e es=>
   have h1:=List.length_pos_iff.2 (hv e zai).2;have h2:=qvB (es:=es) fun e he=>(hv e (zae _ he)).2;rw[qhN,zag]at hk;have h3:es=[]:=List.length_eq_zero_iff.1 (by omega);subst h3;obtain⟨a,ks,⟨⟩⟩:=e;simp only at h1 hk;match ks,h1,hk with
   |[k],_,_=>exact⟨a,k,rfl⟩
   |[],h1,_=>simp at h1
   |_::_::_,_,hk=>simp at hk;omega
 obtain⟨a,k,rfl⟩:=hes;have hs:qaA N ()=some ((t,()),()):=rfl;have z0:eqI 0 0=true:=by rw[qaQ];rfl
 have l1:eqI (qs [((a,([k],())):qe4)]) 1=true:=by rw[qaQ,qp];rfl
 have l2:inB 0 (qs [((a,([k],())):qe4)])=true:=qai (i:=0) (by simp);have l3:qh [((a,([k],())):qe4)] 0 zE=(a,([k],())):=qY (i:=0) zE (by simp);have l4:eqI (qs [k]) 1=true:=by rw[qaQ,qp];rfl
 have he':qaT N (t,(([1]:List Int),((([(1,(5,(([]:List UInt8),()))),(3,(0,(([113]:List UInt8),())))]:List qa)::([]:List (List qa))),())))=some (((t,([1],([(a,([k],()))],()))),(0,())),()):=he;simp only[qaS,qJ,hs,qg,qj,he',z0,l1,l2,l3,l4,zak,za4,cond_true]
end
end Go.Proofs.YtghccmfcndnljaaGreat
namespace Go.Proofs.YtghccmfcndnljaaGreat
open Go.Vi
noncomputable section
theorem qsf {es:List qe4}{i:Nat}(h:i<es.length):qav (es.take (i+1))=qav (es.take i)++(es[i]).2.1.map fun k=>((es[i]).1,(k,())):=by
 rw[qb2 h,qco,qdr];simp[qav]
theorem qe5 (es:List qe4):(qav es).length=(qev es).length:=by rw[←qe2,List.length_map]
theorem qgi (N:Nat) (x:qgf) (h:SmI N x):qaG N (x,())=some ((qav x.2.2.1,()),()):=by
 have hb:=h.big;have hes:=h.es;have hkk:=h.keys;simp only[qaG];refine qdh (S:=List DIR×(Int×Unit)) (fun i=>(qav (x.2.2.1.take i),((i:Int),()))) x.2.2.1.length _ (by simp[qav]) (fun i hi ih=>?_) (fun ih=>?_) (by omega)
 ·have hkl:=(h.smr (zau hi)).1;have hle:=qf6 x.2.2.1 (i+1);rw[qgG hi,zag]at hle;simp only[qbK hi,qai hi,cond_true,qY _ hi];refine qml (S:=List DIR×(Int×Unit)) (fun k=>(qav (x.2.2.1.take i)++((x.2.2.1[i]).2.1.take k).map (fun k=>((x.2.2.1[i]).1,(k,()))),((k:Int),()))) (x.2.2.1[i]).2.1.length (ih (qav (x.2.2.1.take (i+1)),(((i+1:Nat):Int),()))) (by simp) (fun k hk kh=>?_) (fun kh=>?_) (by omega)
  ·have hroom:qcm (qs (qav (x.2.2.1.take i)++((x.2.2.1[i]).2.1.take k).map (fun k=>(((x.2.2.1[i]).1,(k,())):DIR)))) (qs ([((x.2.2.1[i]).1,((x.2.2.1[i]).2.1[k],()))]:List DIR)) 48=true:=qcx (by
    rw[zag,qe5,List.length_map,zaf];simp;omega)
   simp only[qbK hk,qai hk,cond_true,qY _ hk,hroom,qan (show k<4611686018427387904 by omega),qbi];rw[qb2 hk,za3,←zaC];rfl
  ·simp only[qbs (zaW _),cond_false,za5,qan (show i<4611686018427387904 by omega)];rw[qsf hi]
 ·simp only[qbs (zaW _),cond_false,za5]
theorem qqu (N:Nat) (a:List DIR) (hB:N≤1099511627776) (hl:a.length<N) (hr:∀r∈a,r.1.length<N∧r.2.1.length<N):qa8 N (a,(a,()))=some ((true,()),()):=by
 simp only[qa8,qJ];rw[qE (by rw[qaC];simp)];refine qdh (S:=Int×Unit) (fun i=>((i:Int),())) a.length _ (by simp) (fun i hi ih=>?_) (fun ih=>?_) hl
 ·have h:=hr _ (zau hi);simp only[qbK hi,qai hi,cond_true,qY _ hi,qd6 N _ _ h.1 (by omega),qd6 N _ _ h.2 (by omega),qg,qj,decide_true,za4,zak,zaT,Bool.or_self,cond_false,qan (show i<4611686018427387904 by omega)]
 ·simp only[qbs (zaW _),cond_false]
theorem qmD (N:Nat) (a:List Int) (hB:N≤1099511627776) (hl:a.length<N):qaL N (a,(a,()))=some ((true,()),()):=by
 simp only[qaL];rw[qE (by rw[qaC];simp)];refine qdh (S:=Int×Unit) (fun i=>((i:Int),())) a.length _ (by simp) (fun i hi ih=>?_) (fun ih=>?_) hl
 ·simp only[qbK hi,qai hi,cond_true,qY _ hi,qaC,decide_true,zaT,zak,cond_false,qan (show i<4611686018427387904 by omega)]
 ·simp only[qbs (zaW _),cond_false]
theorem qqf (N:Nat) (a:List qd) (hB:N≤1099511627776) (hl:a.length<N):qbl N (a,(a,()))=some ((true,()),()):=by
 simp only[qbl];rw[qE (by rw[qaC];simp)];refine qdh (S:=Int×Unit) (fun i=>((i:Int),())) a.length _ (by simp) (fun i hi ih=>?_) (fun ih=>?_) hl
 ·have eb:∀b:Bool,eqB b b=true:=fun b=>by cases b<;>simp[qn0]
  simp only[qbK hi,qai hi,cond_true,qY _ hi,qmC,qaQ,eb,decide_true,zaT,zak,cond_false,qan (show i<4611686018427387904 by omega)]
 ·simp only[qbs (zaW _),cond_false]
theorem qhl (N:Nat) (t:qD) (cs:List Int) (es like:List qe4) (h:SmI N (t,(cs,(es,())))) (g:qkD (t,(cs,(es,())))):qZ N ((t,(cs,(es,()))),((t,(cs,(like,()))),(qav es,())))=some ((true,()),()):=by
 have hn:=h.n;have hb:=h.big;have hp:=h.pk;have hco:=h.cols;have hcs:=h.cs;have hkk:=h.keys;have hva:=h.vals;have hkr:=h.krow;have e1:=qfp N _ h;rw[qeW.2 g]at e1;have e2:=qgi N _ h;simp only at hp hco hcs hkk hva hkr e2;have e3:=qqu N (qav es) hn (by rw[qe5];omega) (fun r hr=>by
  obtain⟨e,he,hr⟩:=za2.1 hr;obtain⟨k,hk,rfl⟩:=zaS.1 hr;have:=hva e he;have:=hkr k (za2.2 ⟨e,he,hk⟩);simp only;omega)
 have e4:=qmD N t.2.2.1 hn (by omega);have e5:=qqf N t.2.1 hn (by omega);have e6:=qmD N cs hn (by omega);have z:eqI 0 0=true:=by rw[qaQ];rfl
 simp only[qZ,qJ,e1,e2,e3,e4,e5,e6,qg,qj,za4,zak,cond_true,qmC,decide_true,z]
abbrev zR:DIR:=(([]:List qa),(([]:List qa),()))
def OkR (N:Nat) (r:DIR):Prop:=r.1.length<N∧r.2.1.length<N
theorem quL (N:Nat) (hB:N≤1099511627776) (xs:List DIR) (i j:Int) (i0:0≤i) (i1:i<(xs.length:Int)) (j0:0≤j) (j1:j<(xs.length:Int)) (hi:OkR N (qh xs i zR)) (hj:OkR N (qh xs j zR)):
  qkW (e:=qn) (qaY N) xs i j=some (decide (qfX (qh xs i zR) (qh xs j zR)<0)):=by
 have b1:inB i (qs xs)=true:=by rw[qfH,qp];exact decide_eq_true ⟨i0,i1⟩
 have b2:inB j (qs xs)=true:=by rw[qfH,qp];exact decide_eq_true ⟨j0,j1⟩
 unfold qkW;rw[b1,b2];simp only[zak,cond_true,qaY,qJ,b1,b2];have c1:=qcH N (qh xs i zR).1 (qh xs j zR).1 hi.1 hB;have c2:=qcH N (qh xs i zR).2.1 (qh xs j zR).2.1 hi.2 hB;simp only[c1,c2,qg,qj,cond_true,qaC,qbD,qdR];unfold qfX;by_cases q:qaa (qh xs i zR).1 (qh xs j zR).1=0
 ·rw[if_neg (fun e=>e q)];simp[q]
 ·rw[if_pos q];simp[q]
abbrev psiR:(DIR×(DIR×Unit))→Option (Int×Unit):=fun x=>some (qfX x.1 x.2.1,())
theorem cmpPsi (N:Nat):Cmp (OkR N) psiR (fun a b=>¬qfX b a<0) where
 ans a b ha hb:=⟨qfX a b,rfl,by simp⟩
 tot a b _ _:=by
  by_cases h:qfX b a<0
  ·right;intro h2;exact LtR.irr (qiM (a:=b) (b:=a) (c:=b) h h2)
  ·exact .inl h
 trans a b c _ _ _ h1 h2 h3:=by
  by_cases e:qfX b a<0
  ·exact h1 e
  ·by_cases e2:qfX a b<0
   ·exact h2 (qiM (a:=c) (b:=a) (c:=b) h3 e2)
   ·have:a=b:=(qkn a b).1 (by rw[qnH a b]at e;omega);rw[this]at h3;exact h2 h3
theorem qr2 {α:Type}(N:Nat) (m:Nat) (hm:m≤1) (hN:100<N) (φ:List α→Int→Int→Option Bool):qnq N (([],φ),((m:Int),()))=some ((),(([]:List α),())):=by
 obtain⟨M,rfl⟩:∃M,N=M+1:=⟨N-1,by omega⟩;have hins:qkR (M+1) ((([]:List α),φ),(0,((m:Int),())))=some ((),(([]:List α),())):=by
  simp only[qkR];rw[qca];have e:qQ .i64 0 1=1:=by rw[qay (by omega) (by omega)];omega
  simp only[e];rw[qE (ltF (by omega))]
 simp only[qnq,qJ];rw[qca];simp only;rw[qE (leF (by omega))];simp only[hins,qg,qj,cond_true];rw[qca];simp only;rw[qE (ltF (by omega))]
theorem qvH (N:Nat) (xs:List DIR) (hB:N≤1099511627776) (hN:2*xs.length+200<N) (hx:∀r∈xs,OkR N r) (hn:xs.Nodup):∃out,qaj N (xs,())=some ((out,()),())∧out.Perm xs∧out.Pairwise LtR:=by
 have hstb:qc4 N=qnq N:=rfl;unfold qaj;rw[hstb];by_cases h1:xs.length≤1
 ·rw[qV (by simp only;rw[qdX,qp];exact decide_eq_true (by omega))];simp only[qp];rw[qr2 N xs.length h1 (by omega)];refine⟨xs,by simp only[qdR,Option.map_some],.refl _,?_⟩;match xs,h1 with
  |[],_=>simp
  |[a],_=>simp
 ·rw[qE (by simp only;rw[qdX,qp];exact decide_eq_false (by omega))];have hal:qni (OkR N) xs.length zR (qkW (e:=qn) (qaY N)) psiR:=fun ys hy i j i0 i1 j0 j1=>by
   refine⟨qfX (qh ys i zR) (qh ys j zR),?_,rfl⟩;exact quL N hB ys i j i0 (by rw[hy.len];exact i1) j0 (by rw[hy.len];exact j1) (hy.get zR i0 i1) (hy.get zR j0 j1)
  obtain⟨out,o1,o2,o3⟩:=qrt zR hal (cmpPsi N) (n:=xs.length) (N:=N) (by omega) (by omega) (ys:=xs) ⟨rfl,hx⟩;simp only[qp];rw[o1];refine⟨out,by simp only[qdR,Option.map_some],o2.perm,?_⟩;have hl:=o2.perm.length_eq;have hnd:out.Nodup:=o2.perm.nodup_iff.2 hn;rw[zaQ];intro i j hi hj hij;have h:=o3 i j (by omega) (by omega) (by omega);rw[qY _ hi,qY _ hj]at h;have hne:out[i]≠out[j]:=fun e=>(zaQ.1 (List.nodup_iff_pairwise_ne.1 hnd) i j hi hj hij) e;have h0:qfX out[i] out[j]≠0:=fun e=>hne ((qkn _ _).1 e);rw[qnH]at h;show qfX out[i] out[j]<0;omega
end
end Go.Proofs.YtghccmfcndnljaaGreat
namespace Go.Proofs.YtghccmfcndnljaaGreat
open Go.Vi
noncomputable section
theorem qso {es:List qe4}{v:qba}{k:Nat}(hs:es.Pairwise fun a b=>Lt a.1 b.1) (h:At (fun e:qe4=>qaa e.1 v) es k) (hv:v∈es.map (·.1)):∃hk:k<es.length,(es[k]).1=v:=by
 obtain⟨e,he,rfl⟩:=zaS.1 hv;obtain⟨i,hi,rfl⟩:=zaw he;have h0:qaa (es[i]).1 (es[i]).1=0:=(qb6 _ _).2 rfl;have hki:k≤i:=by
  rcases Nat.lt_or_ge i k with q|q
  ·have:=h.lo i hi q;omega
  ·exact q
 rcases Nat.lt_or_ge k i with q|q
 ·have h3:=h.hi k (by omega) (zay _);have h4:Lt (es[k]).1 (es[i]).1:=zaQ.1 hs k i (by omega) hi q;unfold Lt at h4;omega
 ·have:k=i:=by omega
  subst this;exact⟨hi,rfl⟩
theorem qsP {ks:List qba}{key:qba}{k:Nat}(hs:ks.Pairwise Lt) (h:At (fun r=>qaa r key) ks k) (hv:key∈ks):∃hk:k<ks.length,ks[k]=key:=by
 obtain⟨i,hi,rfl⟩:=zaw hv;have h0:qaa ks[i] ks[i]=0:=(qb6 _ _).2 rfl;have hki:k≤i:=by
  rcases Nat.lt_or_ge i k with q|q
  ·have:=h.lo i hi q;omega
  ·exact q
 rcases Nat.lt_or_ge k i with q|q
 ·have h3:=h.hi k (by omega) (zay _);have h4:Lt ks[k] ks[i]:=zaQ.1 hs k i (by omega) hi q;unfold Lt at h4;omega
 ·have:k=i:=by omega
  subst this;exact⟨hi,rfl⟩
theorem qo4 {es:List qe4}{v key:qba}:((v,(key,())):DIR)∈qav es↔∃e∈es,e.1=v∧key∈e.2.1:=by
 unfold qav;rw[za2];constructor
 ·rintro⟨e,he,h⟩;obtain⟨k,hk,e2⟩:=zaS.1 h;simp only[zbh.injEq,and_true]at e2;exact⟨e,he,e2.1,by rw[←e2.2];exact hk⟩
 ·rintro⟨e,he,rfl,hk⟩;exact⟨e,he,zaS.2 ⟨key,hk,rfl⟩⟩
open Classical in
theorem qpk (N:Nat) (x:qgf) (r:qba) (h:SmI N x) (g:qkD x) (hr:qeu x.1 r=0):∃k k2:Nat,qb8 N (x,(r,()))=some (((k:Int),((k2:Int),(decide (((qcu r x.2.1,(qgv x.1.2.2.1 r,())):DIR)∈qav x.2.2.1),()))),())∧
  (((qcu r x.2.1,(qgv x.1.2.2.1 r,())):DIR)∈qav x.2.2.1→∃(hk:k<x.2.2.1.length) (hk2:k2<(x.2.2.1[k]).2.1.length),(x.2.2.1[k]).1=qcu r x.2.1∧(x.2.2.1[k]).2.1[k2]=qgv x.1.2.2.1 r):=by
 have hn:=h.n;have hb:=h.big;have hp:=h.pk;have hcs:=h.cs;obtain⟨t1,t2,t3,t4⟩:=qdP g.tab;obtain⟨r1,r2,r3⟩:=qfr hr;have hIn:InR r.length x.2.1:=by rw[r2];exact t3
 obtain⟨k,kA,kE⟩:=qo8 N x (qcu r x.2.1) h g.ord;have e3:=qtI N x.1 r (by omega) hn;have e6:=qnb N r x.2.1 hIn hcs hb;generalize hv:qcu r x.2.1=v at *
 generalize hky:qgv x.1.2.2.1 r=key at *
 by_cases hf:v∈x.2.2.1.map (·.1)
 ·rw[decide_eq_true hf]at kE;obtain⟨hk,hkv⟩:=qso g.ord kA hf;have hmem:x.2.2.1[k]∈x.2.2.1:=zau hk;obtain⟨k2,k2A,k2E⟩:=qjS N (x.2.2.1[k]).2.1 key (g.keys _ hmem).1 (h.smr hmem) hb hn;have k2E':qB N ((x.2.2.1[k]).2.1,(key,((fun x0=>(qhI (fun y1=>(y1.1.1,())) (qw N (x0.1,(x0.2.1,()))))),())))=some (((k2:Int),(decide (key∈(x.2.2.1[k]).2.1),())),()):=k2E;have hiff:key∈(x.2.2.1[k]).2.1↔((v,(key,())):DIR)∈qav x.2.2.1:=by
   rw[qo4];constructor
   ·intro q;exact⟨_,hmem,hkv,q⟩
   ·rintro⟨e,he,hev,hke⟩;obtain⟨i,hi,rfl⟩:=zaw he;have:i=k:=by
     rcases Nat.lt_trichotomy i k with q|q|q
     ·have h4:Lt (x.2.2.1[i]).1 (x.2.2.1[k]).1:=zaQ.1 g.ord i k hi hk q;rw[hev,hkv]at h4;exact absurd h4 (qlm _)
     ·exact q
     ·have h4:Lt (x.2.2.1[k]).1 (x.2.2.1[i]).1:=zaQ.1 g.ord k i hk hi q;rw[hev,hkv]at h4;exact absurd h4 (qlm _)
    subst this;exact hke
  refine⟨k,k2,?_,fun hm=>?_⟩
  ·simp only[qb8,qJ,e6,kE,e3,qg,qj,cond_true,cond_false,zaT,qai hk,qY _ hk,k2E',zak];rw[decide_eq_decide.2 hiff]
  ·obtain⟨hk2,hke⟩:=qsP (g.keys _ hmem).1 k2A (hiff.2 hm);exact⟨hk,hk2,hkv,hke⟩
 ·rw[decide_eq_false hf]at kE;have hnm:¬((v,(key,())):DIR)∈qav x.2.2.1:=fun q=>by
   obtain⟨e,he,hev,_⟩:=qo4.1 q;exact hf (zaS.2 ⟨e,he,hev⟩)
  refine⟨k,0,?_,fun q=>absurd q hnm⟩;simp only[qb8,qJ,e6,kE,qg,qj,cond_true,zaY,zak];rw[decide_eq_false hnm];rfl
inductive DelR (v key:qba) (es:List qe4):List qe4→Prop where
 |keep (A B:List qe4) (k1 k2:List qba) (he:es=A++(v,(k1++key::k2,()))::B) (hne:k1++k2≠[]):DelR v key es (A++(v,(k1++k2,()))::B)
 |drop (A B:List qe4) (he:es=A++(v,([key],()))::B):DelR v key es (A++B)
theorem qq4 {v key:qba}{es es':List qe4}(h:DelR v key es es'):∃R1 R2:List DIR,qav es=R1++(v,(key,()))::R2∧qav es'=R1++R2:=by
 cases h with
 |keep A B k1 k2 he hne=>
  subst he;refine⟨qav A++k1.map (fun k=>(v,(k,()))),k2.map (fun k=>(v,(k,())))++qav B,?_,?_⟩
  ·rw[qco,qdr];simp
  ·rw[qco,qdr];simp
 |drop A B he=>
  subst he;refine⟨qav A,qav B,?_,?_⟩
  ·rw[qco,qdr];simp
  ·rw[qco]
theorem qu8 {x:qgf}{v key:qba}{es':List qe4}(g:qkD x) (h:DelR v key x.2.2.1 es'):qkD (x.1,(x.2.1,(es',()))):=by
 obtain⟨g1,g2,g3,g4,g5⟩:=g;obtain⟨R1,R2,e1,e2⟩:=qq4 h;have hnod:(qev es').Nodup:=by
  rw[←qe2,e2];rw[←qe2,e1]at g5;rw[za3,zaZ]at g5;rw[za3];exact g5.sublist (List.Sublist.append (List.Sublist.refl _) (List.sublist_cons_self _ _))
 obtain⟨t,cs,es,⟨⟩⟩:=x;simp only at g1 g2 g3 g4 h;cases h with
 |keep A B k1 k2 he hne=>
  subst he;have hm:(v,(k1++key::k2,()))∈A++(v,(k1++key::k2,()))::B:=by simp
  refine⟨g1,fun e he=>?_,fun e he=>?_,?_,hnod⟩
  ·simp only[zaj,zam]at he;rcases he with he|rfl|he
   ·exact g2 e (by simp[he])
   ·exact⟨(g2 _ hm).1,hne⟩
   ·exact g2 e (by simp[he])
  ·simp only[zaj,zam]at he;rcases he with he|rfl|he
   ·exact g3 e (by simp[he])
   ·obtain⟨p1,p2⟩:=g3 _ hm;simp only at p1 p2;refine⟨p1.sublist (List.Sublist.append (List.Sublist.refl _) (List.sublist_cons_self _ _)),fun k hk=>p2 k ?_⟩;simp only[zaj,zam]at hk⊢
    rcases hk with q|q
    ·exact .inl q
    ·exact .inr (.inr q)
   ·exact g3 e (by simp[he])
  ·obtain⟨q1,q2,q3⟩:=List.pairwise_append.1 g4;obtain⟨q4,q5⟩:=List.pairwise_cons.1 q2;refine List.pairwise_append.2 ⟨q1,List.pairwise_cons.2 ⟨q4,q5⟩,fun a ha b hb=>?_⟩;rcases zam.1 hb with rfl|hb
   ·exact q3 a ha (v,(k1++key::k2,())) zai
   ·exact q3 a ha b (zae _ hb)
 |drop A B he=>
  subst he;have hsub:(A++B).Sublist (A++(v,([key],()))::B):=List.Sublist.append (List.Sublist.refl _) (List.sublist_cons_self _ _);exact⟨g1,fun e he=>g2 e (hsub.subset he),fun e he=>g3 e (hsub.subset he),g4.sublist hsub,hnod⟩
theorem qsc (N:Nat) (x:qgf) (r:qba) (h:SmI N x) (hx:qkG x=0) (hr:qeu x.1 r≠0):qU N (x,(r,()))=some ((zX,(qeu x.1 r,())),()):=by
 have hn:=h.n;have hb:=h.big;have hco:=h.cols;have e1:=qdn N x h;have e2:=qcQ N x.1 r (by omega) (by omega) hn;rw[hx]at e1;have z:neI 0 0=false:=by rw[qaC];rfl
 have z2:neI (qeu x.1 r) 0=true:=by rw[qaC];simp[hr]
 simp only[qU,qJ,e1,e2,z,z2,qg,qj,cond_true,cond_false]
theorem qp0 (N:Nat) (x:qgf) (r:qba) (h:SmI N x) (hx:qkG x=0) (hr:qeu x.1 r=0) (hm:((qcu r x.2.1,(qgv x.1.2.2.1 r,())):DIR)∉qav x.2.2.1):qU N (x,(r,()))=some ((zX,(4,())),()):=by
 have hn:=h.n;have hb:=h.big;have hco:=h.cols;have e1:=qdn N x h;have e2:=qcQ N x.1 r (by omega) (by omega) hn;obtain⟨k,k2,e3,_⟩:=qpk N x r h (qeW.1 hx) hr;rw[hx]at e1;rw[hr]at e2;rw[decide_eq_false hm]at e3;have z:neI 0 0=false:=by rw[qaC];rfl
 simp only[qU,qJ,e1,e2,e3,z,qg,qj,cond_true,cond_false,zaY]
theorem qsK (N:Nat) (x:qgf) (r:qba) (h:SmI N x) (hx:qkG x=0) (hr:qeu x.1 r=0) (hm:((qcu r x.2.1,(qgv x.1.2.2.1 r,())):DIR)∈qav x.2.2.1):
  ∃es',DelR (qcu r x.2.1) (qgv x.1.2.2.1 r) x.2.2.1 es'∧qU N (x,(r,()))=some (((x.1,(x.2.1,(es',()))),(0,())),()):=by
 have hn:=h.n;have hb:=h.big;have hco:=h.cols;have hes:=h.es;have e1:=qdn N x h;have e2:=qcQ N x.1 r (by omega) (by omega) hn;have e5:=qnr N x h;have g:=qeW.1 hx;obtain⟨k,k2,e3,e4⟩:=qpk N x r h g hr;obtain⟨hk,hk2,hkv,hkk⟩:=e4 hm;have hsk:=(h.smr (zau hk)).1;rw[hx]at e1;rw[hr]at e2;rw[decide_eq_true hm]at e3;generalize qcu r x.2.1=v at *
 generalize qgv x.1.2.2.1 r=key at *
 have z:neI 0 0=false:=by rw[qaC];rfl
 obtain⟨⟨nm,cols,pk,⟨⟩⟩,cs,es,⟨⟩⟩:=x;simp only at e1 e2 e3 e5 hk hk2 hkv hkk hsk hes;have ekk:eqI (k:Int) (k:Int)=true:=by rw[qaQ];simp
 have e6:qv N ((es[k]).2.1,((k2:Int),(((k2+1:Nat):Int),())))=some (((es[k]).2.1.take k2++(es[k]).2.1.drop (k2+1),()),()):=by
  simp only[qv];rw[if_pos ⟨by omega,by omega,by omega⟩];simp only[zaJ]
 generalize hks:(es[k]).2.1.take k2++(es[k]).2.1.drop (k2+1)=ks' at e6;have hsplit:(es[k]).2.1=(es[k]).2.1.take k2++key::(es[k]).2.1.drop (k2+1):=by
  rw[←hkk,←zaO hk2,zaK]
 have hent:es=es.take k++(v,((es[k]).2.1.take k2++key::(es[k]).2.1.drop (k2+1),()))::es.drop (k+1):=by
  rw[←hsplit,←hkv];have:((es[k]).1,((es[k]).2.1,()))=es[k]:=rfl;rw[this,←zaO hk,zaK]
 generalize hes1:qbh es (k:Int) ((es[k]).1,(ks',()))=es1;have hes1':es1=es.set k ((es[k]).1,(ks',())):=by rw[←hes1,qbL,zaJ]
 have hk1:k<es1.length:=by rw[hes1',List.length_set];exact hk
 have hg1:es1[k]=((es[k]).1,(ks',())):=by simp[hes1']
 have hss:qbh es1 (k:Int) ((es[k]).1,(ks',()))=es1:=by
  rw[qbL,zaJ,hes1',List.set_set]
 have hset:es1=es.take k++(v,(ks',()))::es.drop (k+1):=by
  rw[hes1',List.set_eq_take_append_cons_drop,if_pos hk,hkv]
 by_cases hz:ks'=[]
 ·have l1:eqI (qs ks') 0=true:=by rw[qaQ,qp,hz];rfl
  have e7:qaJ N (es1,((k:Int),(((k+1:Nat):Int),())))=some ((es1.take k++es1.drop (k+1),()),()):=by
   simp only[qaJ];rw[if_pos ⟨by omega,by omega,by omega⟩];simp only[zaJ]
  refine⟨es.take k++es.drop (k+1),.drop _ _ ?_,?_⟩
  ·have:(es[k]).2.1.take k2=[]∧(es[k]).2.1.drop (k2+1)=[]:=by
    rw[←List.append_eq_nil_iff,hks];exact hz
   rw[this.1,this.2]at hent;exact hent
  ·simp only[qU,qJ,e1,e2,e3,e5,z,qg,qj,cond_true,cond_false,zaT,qai hk,qY _ hk,qan (show k2<4611686018427387904 by omega),qan (show k<4611686018427387904 by omega),e6,ekk,zak,hes1,qai hk1,qY _ hk1,hg1,l1,hss,e7];have hlt:(es.take k).length=k:=by rw[zaf];omega
   have f1:es1.take k=es.take k:=by rw[hset,zaG (by omega),zas (by omega)]
   have f2:es1.drop (k+1)=es.drop (k+1):=by rw[hes1',List.drop_set_of_lt (by omega)]
   rw[f1,f2]
 ·have l1:eqI (qs ks') 0=false:=by
   rw[qaQ,qp];refine decide_eq_false fun q=>hz (List.length_eq_zero_iff.1 (by omega))
  refine⟨es1,?_,?_⟩
  ·rw[hset,←hks];exact .keep _ _ _ _ hent (by rw[hks];exact hz)
  ·simp only[qU,qJ,e1,e2,e3,e5,z,qg,qj,cond_true,cond_false,zaT,qai hk,qY _ hk,qan (show k2<4611686018427387904 by omega),qan (show k<4611686018427387904 by omega),e6,ekk,zak,hes1,qai hk1,qY _ hk1,hg1,l1,hss]
end
end Go.Proofs.YtghccmfcndnljaaGreat
namespace Go.Proofs.YtghccmfcndnljaaGreat
open Go.Vi
noncomputable section
def qtz (low high v:qba):Bool:=decide (0≤qaa v low)&&decide (qaa v high≤0)
def qny (low high:qba) (es:List qe4):List qba:=(es.filter fun e=>qtz low high e.1).flatMap fun e=>e.2.1
theorem qq0 (low high:qba):(es:List qe4)→((qav es).filter fun o=>qtz low high o.1).map (fun o=>o.2.1)=qny low high es
 |[]=>rfl
 |e::es=>by
  rw[qdr,List.filter_append,za3,qq0 low high es];unfold qny;rw[List.filter_cons];cases hq:qtz low high e.1 with
  |true=>
   rw[if_pos rfl,List.flatMap_cons];congr 1;rw[List.filter_eq_self.2 (by
    intro o ho;obtain⟨k,_,rfl⟩:=zaS.1 ho;exact hq),List.map_map]
   simp[Function.comp_def]
  |false=>
   rw[if_neg (by simp)];rw[List.filter_eq_nil_iff.2 (by
    intro o ho;obtain⟨k,_,rfl⟩:=zaS.1 ho;simp[hq])]
   simp
theorem qvk (low high:qba) (es:List qe4):(qny low high es).length≤(qev es).length:=by
 induction es with
 |nil=>simp[qny,qev]
 |cons e es ih=>
  rw[qhN,zag];unfold qny at *
  rw[List.filter_cons];split
  ·rw[List.flatMap_cons,zag];omega
  ·omega
theorem quK (low high:qba) {es:List qe4}{i:Nat}(h:i<es.length):qny low high (es.take (i+1))=if qtz low high (es[i]).1=true then qny low high (es.take i)++(es[i]).2.1 else qny low high (es.take i):=by
 unfold qny;rw[qb2 h,List.filter_append,List.flatMap_append,List.filter_cons];split
 ·simp
 ·simp
theorem qlk (N:Nat) (x:qgf) (low high:qba) (h:SmI N x) (hx:qkG x=0) (hl:low.length≤1048576) (hh:high.length≤1048576):
  qP N (x,(low,(high,())))=if qeD x.1 x.2.1 low=true∧qeD x.1 x.2.1 high=true then some ((qny low high x.2.2.1,(0,())),())else some ((([]:List qba),(7,())),()):=by
 have hn:=h.n;have hb:=h.big;have hes:=h.es;have hcs:=h.cs;have hkk:=h.keys;have g:=qeW.1 hx;obtain⟨t1,t2,t3,t4⟩:=qdP g.tab;have e1:=qdn N x h;rw[hx]at e1;have e5:=qnr N x h;have z:neI 0 0=false:=by rw[qaC];rfl
 have hm:∀r:qba,qaE N (x.1,(x.2.1,(r,())))=some ((qeD x.1 x.2.1 r,()),()):=fun r=>qka N x.1 x.2.1 r t3 (by omega) (by omega) hn;simp only[qP,qJ,e1,e5,z,hm,qg,qj,cond_true,cond_false];have l2:∀i:Nat,i<2→ltI (i:Int) 2=true:=fun i hi=>by rw[qbD];exact decide_eq_true (by omega)
 have b2:∀i:Nat,i<2→inB (i:Int) 2=true:=fun i hi=>by rw[qfH];exact decide_eq_true (by omega)
 refine(qaW (S:=Int×Unit) (E:=Unit) (fun i=>((i:Int),())) 2 (fun i=>if qeD x.1 x.2.1 ([low,high].getD i [])=true then none else some ()) (fun _=>some ((([]:List qba),(7,())),())) (some ((qny low high x.2.2.1,(0,())),())) rfl (fun i hi _ ih=>?_) (fun _ ih=>?_) (by omega)).trans ?_
 ·have hi':i< [low,high].length:=by simpa using hi
  simp only[l2 i hi,b2 i hi,cond_true,qY _ hi',qap _ hi',qan (show i<4611686018427387904 by omega)];cases qeD x.1 x.2.1 [low,high][i]<;>simp
 ·simp only;rw[qE (by rw[qbD];rfl)];refine qdh (S:=List qba×(Int×Unit)) (fun i=>(qny low high (x.2.2.1.take i),((i:Int),()))) x.2.2.1.length _ (by simp[qny]) (fun i hi ih=>?_) (fun ih=>?_) (by omega)
  ·have hv:=h.vals _ (zau hi);have c1:=qb7 N (x.2.2.1[i]).1 low (by omega) hn;have c2:=qb7 N (x.2.2.1[i]).1 high (by omega) hn;have hroom:qcm (qs (qny low high (x.2.2.1.take i))) (qs (x.2.2.1[i]).2.1) 24=true:=qcx (by
    have q1:=qvk low high (x.2.2.1.take i);have q2:=qf6 x.2.2.1 (i+1);rw[qgG hi,zag]at q2;omega)
   simp only[qbK hi,qai hi,cond_true,qY _ hi,c1,c2,qg,qj,za4,zak,hroom,qdX,qan (show i<4611686018427387904 by omega),qbi];rw[quK low high hi];have e:(decide (0≤qaa (x.2.2.1[i]).1 low)&&decide (qaa (x.2.2.1[i]).1 high≤0))=qtz low high (x.2.2.1[i]).1:=rfl;rw[e];cases qtz low high (x.2.2.1[i]).1<;>simp
  ·simp only[qbs (zaW _),cond_false,za5]
 ·have f0:qae (fun i=>if qeD x.1 x.2.1 ([low,high].getD i [])=true then none else some ()) 2=if qeD x.1 x.2.1 low=true∧qeD x.1 x.2.1 high=true then none else some ():=by
   simp only[qae,List.getD_cons_zero,List.getD_cons_succ];cases qeD x.1 x.2.1 low<;>cases qeD x.1 x.2.1 high<;>simp
  rw[f0];by_cases q:qeD x.1 x.2.1 low=true∧qeD x.1 x.2.1 high=true
  ·rw[if_pos q,if_pos q]
  ·rw[if_neg q,if_neg q]
theorem qoi (N:Nat) (a:List qba) (hB:N≤1099511627776) (hl:a.length<N) (hr:∀r∈a,r.length<N):qbu N (a,(a,()))=some ((true,()),()):=by
 simp only[qbu];rw[qE (by rw[qaC];simp)];refine qdh (S:=Int×Unit) (fun i=>((i:Int),())) a.length _ (by simp) (fun i hi ih=>?_) (fun ih=>?_) hl
 ·have h:=hr _ (zau hi);simp only[qbK hi,qai hi,cond_true,qY _ hi,qd6 N _ _ h (by omega),qg,qj,decide_true,zak,zaT,cond_false,qan (show i<4611686018427387904 by omega)]
 ·simp only[qbs (zaW _),cond_false]
end
end Go.Proofs.YtghccmfcndnljaaGreat
namespace Go.Proofs.YtghccmfcndnljaaGreat
open Go.Vi
noncomputable section
theorem qjp (N:Nat) (x:qgf) (low high:qba) (h:SmI N x) (g:qkD x) (hl:low.length≤1048576) (hh:high.length≤1048576):
  qaB N (x,(qav x.2.2.1,(low,(high,((if qeD x.1 x.2.1 low=true∧qeD x.1 x.2.1 high=true then qny low high x.2.2.1 else[]),((if qeD x.1 x.2.1 low=true∧qeD x.1 x.2.1 high=true then 0 else 7),()))))))=some ((true,()),()):=by
 have hn:=h.n;have hb:=h.big;have hcs:=h.cs;have hkk:=h.keys;obtain⟨t1,t2,t3,t4⟩:=qdP g.tab;have hm:∀r:qba,qT N (x.1,(x.2.1,(r,())))=some ((qeD x.1 x.2.1 r,()),()):=fun r=>qfB N x.1 x.2.1 r t3 (by omega) (by omega) hn;have eself:∀k:Int,eqI k k=true:=fun k=>by rw[qaQ];simp
 have hrl:(qav x.2.2.1).length≤1048576:=by rw[qe5];exact hkk
 have hro:∀o∈qav x.2.2.1,o.1.length≤1048576∧o.2.1.length≤1048576:=fun o ho=>by
  obtain⟨e,he,hr⟩:=za2.1 ho;obtain⟨k,hk,rfl⟩:=zaS.1 hr;exact⟨h.vals e he,h.krow k (za2.2 ⟨e,he,hk⟩)⟩
 simp only[qaB,qJ,hm,qg,qj,cond_true,za4,zak];by_cases q:qeD x.1 x.2.1 low=true∧qeD x.1 x.2.1 high=true
 ·rw[qE (by rw[q.1,q.2];rfl),if_pos q,if_pos q];refine qdh (S:=List qba×(Int×Unit)) (fun i=>((((qav x.2.2.1).take i).filter fun o=>qtz low high o.1).map (fun o=>o.2.1),((i:Int),()))) (qav x.2.2.1).length _ (by simp) (fun i hi ih=>?_) (fun ih=>?_) (by omega)
  ·have ho:=hro _ (zau hi);have c1:=qcH N ((qav x.2.2.1)[i]).1 low (by omega) hn;have c2:=qcH N ((qav x.2.2.1)[i]).1 high (by omega) hn;have hroom:qcm (qs ((((qav x.2.2.1).take i).filter fun o=>qtz low high o.1).map (fun o=>o.2.1))) (qs ([((qav x.2.2.1)[i]).2.1]:List qba)) 24=true:=qcx (by
    have:=List.length_filter_le (fun o:DIR=>qtz low high o.1) ((qav x.2.2.1).take i);rw[zaf]at this;simp only[List.length_map,zba,List.length_nil];omega)
   simp only[qbK hi,qai hi,cond_true,qY _ hi,c1,c2,qg,qj,za4,zak,hroom,qdX,qan (show i<4611686018427387904 by omega),qbi];have e:(decide (0≤qaa ((qav x.2.2.1)[i]).1 low)&&decide (qaa ((qav x.2.2.1)[i]).1 high≤0))=qtz low high ((qav x.2.2.1)[i]).1:=rfl;rw[e,qb2 hi,List.filter_append,za3,List.filter_cons];cases qtz low high ((qav x.2.2.1)[i]).1<;>simp
  ·simp only[qbs (zaW _),cond_false,za5];rw[qq0];have e:=qoi N (qny low high x.2.2.1) hn (by have:=qvk low high x.2.2.1;omega) (fun r hr=>by
    obtain⟨e,he,hre⟩:=za2.1 hr;have:=h.krow r (za2.2 ⟨e,(List.mem_filter.1 he).1,hre⟩);omega)
   simp only[e,eself,qg,qj,zaT,Bool.false_or,cond_true,zak]
 ·rw[qV (by
   cases h1:qeD x.1 x.2.1 low<;>cases h2:qeD x.1 x.2.1 high<;>simp_all),if_neg q,if_neg q]
  have l0:qs ([]:List qba)=0:=by rw[qp];rfl
  simp only[eself,l0,zak]
end
end Go.Proofs.YtghccmfcndnljaaGreat
namespace Go.Proofs.YtghccmfcndnljaaGreat
open Go.Vi
noncomputable section
theorem qrH (N:Nat) (x:qgf) (r:qba) (h:SmI N x) (hx:qkG x≠0):qN N (x,(r,()))=some ((zX,(qkG x,())),()):=by
 have e1:=qdn N x h;have z2:neI (qkG x) 0=true:=by rw[qaC];simp[hx]
 simp only[qN,qJ,e1,z2,qg,qj,cond_true]
theorem qr9 (N:Nat) (x:qgf) (r:qba) (h:SmI N x) (hx:qkG x≠0):qU N (x,(r,()))=some ((zX,(qkG x,())),()):=by
 have e1:=qdn N x h;have z2:neI (qkG x) 0=true:=by rw[qaC];simp[hx]
 simp only[qU,qJ,e1,z2,qg,qj,cond_true]
theorem qpm (N:Nat) (x:qgf) (low high:qba) (h:SmI N x) (hx:qkG x≠0):qP N (x,(low,(high,())))=some ((([]:List qba),(qkG x,())),()):=by
 have e1:=qdn N x h;have z2:neI (qkG x) 0=true:=by rw[qaC];simp[hx]
 simp only[qP,qJ,e1,z2,qg,qj,cond_true]
theorem qmb (N:Nat) (x:qgf) (low:qba) {a:List qba}{b:Int}(h:qP N (x,(low,(low,())))=some ((a,(b,())),())):qbY N (x,(low,()))=some ((a,(b,())),()):=by
 simp only[qbY,h,qg,qj,cond_true]
theorem cloneR (N:Nat) (xs:List DIR) (h:xs.length≤1099511627776):q9 N (xs,())=some ((xs,()),()):=by
 simp only[q9];have hr:qcm (qs ([]:List DIR)) (qs xs) 48=true:=qcx (by simp;omega);rw[hr];simp only[cond_true,qbi,List.nil_append];cases xs with
 |nil=>rw[qV (by rw[qaQ,qp];rfl),qh0,if_pos rfl]
 |cons x r=>rw[qE (by rw[qaQ,qp];simp;omega)]
end
end Go.Proofs.YtghccmfcndnljaaGreat
namespace Go.Proofs.YtghccmfcndnljaaGreat
open Go.Vi
noncomputable section
theorem qrk:(es:List qe4)→(qev es).length+es.length≤(es.map (qC).bulk).sum∧(∀e∈es,e.1.length≤(es.map (qC).bulk).sum)∧∀k∈qev es,k.length≤(es.map (qC).bulk).sum
 |[]=>by simp[qev]
 |e::es=>by
  obtain⟨h1,h2,h3⟩:=qrk es;have hb:(qC).bulk e=(Ty.slice qf).bulk e.1+((Ty.slice (.slice qf)).bulk e.2.1+1):=rfl;have b1:=qdq qf e.1;have b2:=qdq (.slice qf) e.2.1;have b3:∀ks:List qba,∀k∈ks,k.length≤(Ty.slice (.slice qf)).bulk ks:=fun ks=>by
   induction ks with
   |nil=>intro k hk;cases hk
   |cons a ks ih=>
    intro k hk;have e1:(Ty.slice (.slice qf)).bulk (a::ks)=(Ty.slice qf).bulk a+(Ty.slice (.slice qf)).bulk ks:=by
     show((a::ks).map (Ty.slice qf).bulk).sum+1=_;rw[zaZ,List.sum_cons];show _=_+((ks.map (Ty.slice qf).bulk).sum+1);omega
    have e2:=qdq qf a;rcases zam.1 hk with rfl|hk
    ·omega
    ·have:=ih k hk;omega
  rw[zaZ,List.sum_cons,qhN,zag,zba];refine⟨by omega,fun x hx=>?_,fun k hk=>?_⟩
  ·rcases zam.1 hx with rfl|hx
   ·omega
   ·have:=h2 x hx;omega
  ·rcases zaj.1 hk with hk|hk
   ·have:=b3 e.2.1 k hk;omega
   ·have:=h3 k hk;omega
end
end Go.Proofs.YtghccmfcndnljaaGreat
namespace Go.Proofs.YtghccmfcndnljaaGreat
open Go.Vi
noncomputable section
theorem qsX (N:Nat) (x:qgf) (r low high:qba) (h:SmI N x) (hx:qkG x≠0):qH N (x,(r,(low,(high,()))))=some ((true,()),()):=by
 have hn:=h.n;have hb:=h.big;have e1:=qdn N x h;have e2:=qfp N x h;have e3:=qoh N hn hb;have e4:=qrH N x r h hx;have e5:=qr9 N x r h hx;have e6:=qpm N x low high h hx;have e7:=qmb N x low (qpm N x low low h hx);have nself:∀k:Int,neI k k=false:=fun k=>by rw[qaC];simp
 have eself:∀k:Int,eqI k k=true:=fun k=>by rw[qaQ];simp
 have z2:neI (qkG x) 0=true:=by rw[qaC];simp[hx]
 have l0:qs ([]:List qe4)=0:=by rw[qp];rfl
 have l1:qs ([]:List qba)=0:=by rw[qp];rfl
 have a0:qQ .i64 0 0=0:=by rw[qay (by omega) (by omega)];rfl
 simp only[qH,qJ,e1,e2,e3,e4,e5,e6,e7,z2,nself,eself,l0,l1,a0,qg,qj,cond_true,cond_false,zaT,zaY,Bool.or_false,Bool.false_or,za4,zak,Bool.or_self]
theorem qs7 (N:Nat) (x:qgf) (r low high:qba) (h:SmI N x) (hx:qkG x=0) (hr:qeu x.1 r≠0) (hl:low.length≤1048576) (hh:high.length≤1048576):qH N (x,(r,(low,(high,()))))=some ((true,()),()):=by
 have hn:=h.n;have hb:=h.big;have hco:=h.cols;have g:=qeW.1 hx;have e1:=qdn N x h;have e2:=qfp N x h;rw[hx]at e1 e2;have e3:=qoh N hn hb;have e4:=qnJ N x r h hx hr;have e5:=qsc N x r h hx hr;have k1:=qjp N x low high h g hl hh;have k2:=qjp N x low low h g hl hl;have e6:=qlk N x low high h hx hl hh;have e7:=qlk N x low low h hx hl hl;have e6':qP N (x,(low,(high,())))=some (((if qeD x.1 x.2.1 low=true∧qeD x.1 x.2.1 high=true then qny low high x.2.2.1 else[]),((if qeD x.1 x.2.1 low=true∧qeD x.1 x.2.1 high=true then 0 else 7),())),()):=by rw[e6];split<;>rfl
 have e7':qP N (x,(low,(low,())))=some (((if qeD x.1 x.2.1 low=true∧qeD x.1 x.2.1 low=true then qny low low x.2.2.1 else[]),((if qeD x.1 x.2.1 low=true∧qeD x.1 x.2.1 low=true then 0 else 7),())),()):=by rw[e7];split<;>rfl
 have e8:=qmb N x low e7';have e9:=qnr N x h;have e10:=qgi N x h;have e11:qZ N (x,(x,(qav x.2.2.1,())))=some ((true,()),()):=qhl N x.1 x.2.1 x.2.2.1 x.2.2.1 h g;have e12:=qht N x.1 r (by omega) (by omega) hn;have e13:=qcQ N x.1 r (by omega) (by omega) hn;have nself:∀k:Int,neI k k=false:=fun k=>by rw[qaC];simp
 have eself:∀k:Int,eqI k k=true:=fun k=>by rw[qaQ];simp
 have z2:neI (qeu x.1 r) 0=true:=by rw[qaC];simp[hr]
 have l0:qs ([]:List qe4)=0:=by rw[qp];rfl
 have a0:qQ .i64 0 0=0:=by rw[qay (by omega) (by omega)];rfl
 obtain⟨⟨nm,cols,pk,⟨⟩⟩,cs,es,⟨⟩⟩:=x;simp only at e6' e8 e9 e10 e11 e12 e13 k1 k2 e4 e5 z2;simp only[qH,qJ,e1,e2,e3,e4,e5,e6',e8,e9,e10,e11,e12,e13,k1,k2,z2,nself,eself,l0,a0,qg,qj,cond_true,cond_false,zaT,zaY,Bool.or_false,Bool.false_or,za4,zak,Bool.or_self]
end
end Go.Proofs.YtghccmfcndnljaaGreat
namespace Go.Proofs.YtghccmfcndnljaaGreat
open Go.Vi
noncomputable section
open Classical in
def qmP (q:DIR) (L:List DIR):List DIR:=L.filter fun o=> !decide (o=q)
open Classical in
def qrf (q:DIR) (L:List DIR):Bool:=decide (q.2.1∈L.map fun o=>o.2.1)
open Classical in
theorem qoy {q:DIR}{L:List DIR}(h:q∉L):qmP q L=L:=by
 unfold qmP;refine List.filter_eq_self.2 fun o ho=>?_;have:o≠q:=fun e=>h (e▸ho);simp[this]
open Classical in
theorem qv6 {q:DIR}{R1 R2:List DIR}(h:(R1++q::R2).Nodup):qmP q (R1++q::R2)=R1++R2:=by
 have h1:q∉R1:=fun m=>by
  have:=(zah.1 h).2.2 q m q zai;exact this rfl
 have h2:q∉R2:=(zax.1 (zah.1 h).2.1).1;unfold qmP;rw[List.filter_append,List.filter_cons];have e1:R1.filter (fun o=> !decide (o=q))=R1:=qoy h1;have e2:R2.filter (fun o=> !decide (o=q))=R2:=qoy h2;rw[e1,e2];simp
end
end Go.Proofs.YtghccmfcndnljaaGreat
namespace Go.Proofs.YtghccmfcndnljaaGreat
open Go.Vi
noncomputable section
structure Fin (N:Nat) (x:qgf) (q:DIR) (I D:qgf) (y1 y3:Int):Prop where
 dl:(q∈qav x.2.2.1∧y3=0∧qZ N (D,(x,(qmP q (qav x.2.2.1),())))=some ((true,()),())∧(qmP q (qav x.2.2.1)).length<(qav x.2.2.1).length∧qrf q (qav x.2.2.1)=true)∨(qmP q (qav x.2.2.1)=qav x.2.2.1∧y3=4∧D.2.2.1=[])
 ins:(qrf q (qav x.2.2.1)=true∧y1=9∧I.2.2.1=[])∨(qrf q (qav x.2.2.1)=false∧y1=0∧∃out,qaj N (qav x.2.2.1++[q],())=some ((out,()),())∧qZ N (I,(x,(out,())))=some ((true,()),()))
theorem qsN (N:Nat) (x:qgf) (r low high:qba) (h:SmI N x) (hx:qkG x=0) (hr:qeu x.1 r=0) (hl:low.length≤1048576) (hh:high.length≤1048576) {I D:qgf}{y1 y3:Int}
  (e4:qN N (x,(r,()))=some ((I,(y1,())),())) (e5:qU N (x,(r,()))=some ((D,(y3,())),())) (hf:Fin N x (prow x.1 x.2.1 r) I D y1 y3):qH N (x,(r,(low,(high,()))))=some ((true,()),()):=by
 have hn:=h.n;have hb:=h.big;have hco:=h.cols;have hp:=h.pk;have hcs:=h.cs;have hkk:=h.keys;have g:=qeW.1 hx;obtain⟨t1,t2,t3,t4⟩:=qdP g.tab;have e1:=qdn N x h;have e2:=qfp N x h;rw[hx]at e1 e2;have e3:=qoh N hn hb;have k1:=qjp N x low high h g hl hh;have k2:=qjp N x low low h g hl hl;have e6':qP N (x,(low,(high,())))=some (((if qeD x.1 x.2.1 low=true∧qeD x.1 x.2.1 high=true then qny low high x.2.2.1 else[]),((if qeD x.1 x.2.1 low=true∧qeD x.1 x.2.1 high=true then 0 else 7),())),()):=by rw[qlk N x low high h hx hl hh];split<;>rfl
 have e7':qP N (x,(low,(low,())))=some (((if qeD x.1 x.2.1 low=true∧qeD x.1 x.2.1 low=true then qny low low x.2.2.1 else[]),((if qeD x.1 x.2.1 low=true∧qeD x.1 x.2.1 low=true then 0 else 7),())),()):=by rw[qlk N x low low h hx hl hl];split<;>rfl
 have e8:=qmb N x low e7';have e9:=qnr N x h;have e10:=qgi N x h;have e11:qZ N (x,(x,(qav x.2.2.1,())))=some ((true,()),()):=qhl N x.1 x.2.1 x.2.2.1 x.2.2.1 h g;have e12:=qht N x.1 r (by omega) (by omega) hn;have e13:=qcQ N x.1 r (by omega) (by omega) hn;rw[hr]at e12 e13;have hIn:InR r.length x.2.1:=by rw[(qfr hr).2.1];exact t3
 have e14:=qn6 N x.1 r x.2.1 hIn hcs hp hb hn;have nself:∀k:Int,neI k k=false:=fun k=>by rw[qaC];simp
 have eself:∀k:Int,eqI k k=true:=fun k=>by rw[qaQ];simp
 have hrl:(qav x.2.2.1).length≤1048576:=by rw[qe5];exact hkk
 have hro:∀o∈qav x.2.2.1,o.1.length≤1048576∧o.2.1.length≤1048576:=fun o ho=>by
  obtain⟨e,he,hr⟩:=za2.1 ho;obtain⟨k,hk,rfl⟩:=zaS.1 hr;exact⟨h.vals e he,h.krow k (za2.2 ⟨e,he,hk⟩)⟩
 have e15:=cloneR N (qav x.2.2.1) (by omega);generalize hL:qav x.2.2.1=L at *
 obtain⟨⟨nm,cols,pk,⟨⟩⟩,cs,es,⟨⟩⟩:=x;simp only at e6' e8 e9 e10 e11 e12 e13 e14 k1 k2 e4 e5;simp only[qH,qJ,e1,e2,e3,e4,e5,e6',e8,e9,e10,e11,e12,e13,e14,k1,k2,nself,qg,qj,cond_true,cond_false,zaT,zaY,Bool.or_false,Bool.false_or,za4,zak,Bool.or_self];refine qml (S:=List DIR×(Bool×(Int×Unit))) (fun i=>(qmP (prow (nm,(cols,(pk,()))) cs r) (L.take i),(qrf (prow (nm,(cols,(pk,()))) cs r) (L.take i),((i:Int),())))) L.length _ (by simp[qmP,qrf]) (fun i hi ih=>?_) (fun ih=>?_) (by omega)
 ·have ho:=hro _ (zau hi);have hle:(qmP (prow (nm,(cols,(pk,()))) cs r) (L.take i)).length≤i:=by
   have:=List.length_filter_le (fun o=>open Classical in !decide (o=(prow (nm,(cols,(pk,()))) cs r))) (L.take i);rw[zaf]at this;unfold qmP;omega
  have hroom:qcm (qs (qmP (prow (nm,(cols,(pk,()))) cs r) (L.take i))) (qs ([L[i]]:List DIR)) 48=true:=qcx (by simp;omega);have o1:qmP (prow (nm,(cols,(pk,()))) cs r) (L.take (i+1))=qmP (prow (nm,(cols,(pk,()))) cs r) (L.take i)++(if(L[i]).1=qcu r cs∧(L[i]).2.1=qgv pk r then[]else[L[i]]):=by
   unfold qmP;rw[qb2 hi,List.filter_append,List.filter_cons];obtain⟨a,b,⟨⟩⟩:=L[i];by_cases q1:a=qcu r cs<;>by_cases q2:b=qgv pk r<;>simp[prow,q1,q2]
  have o2:qrf (prow (nm,(cols,(pk,()))) cs r) (L.take (i+1))=(qrf (prow (nm,(cols,(pk,()))) cs r) (L.take i)||decide ((L[i]).2.1=qgv pk r)):=by
   unfold qrf;rw[qb2 hi,za3];by_cases q2:(L[i]).2.1=qgv pk r
   ·simp[prow,q2]
   ·have q2':¬qgv pk r=(L[i]).2.1:=fun e=>q2 e.symm;simp[prow,q2,q2']
  simp only[qbK hi,qai hi,cond_true,qY _ hi,qd6 N (L[i]).2.1 (qgv pk r) (by omega) (by omega),qd6 N (L[i]).1 (qcu r cs) (by omega) (by omega),qg,qj,za4,zak,hroom,qan (show i<4611686018427387904 by omega),qbi,o1,o2];by_cases q1:(L[i]).1=qcu r cs<;>by_cases q2:(L[i]).2.1=qgv pk r<;>simp[q1,q2]
 ·simp only[qbs (zaW _),cond_false,za5];have hL':qav es=L:=hL;obtain⟨fd,fi⟩:=hf;simp only[hL']at fd fi;rcases fd with⟨m,h3,d1,d2,d3⟩|⟨d1,h3,d2⟩
  ·subst h3;have d2':(qmP (prow (nm,(cols,(pk,()))) cs r) L).length<L.length:=d2;have q1:eqI (qs (qmP (prow (nm,(cols,(pk,()))) cs r) L)) (qs L)=false:=by rw[qaQ,qp,qp];exact decide_eq_false (by omega)
   have q2:ltI (qs (qmP (prow (nm,(cols,(pk,()))) cs r) L)) (qs L)=true:=by rw[qbD,qp,qp];exact decide_eq_true (by omega)
   rcases fi with⟨u1,h1,u2⟩|⟨u1,_⟩
   ·subst h1;have l0:qs I.2.2.1=0:=by rw[u2,qp];rfl
    simp only[q1,q2,d1,u1,l0,nself,eself,qg,qj,cond_true,cond_false,za7,zak,za4,zaT,zaY,Bool.or_self,Bool.and_false]
   ·rw[d3]at u1;cases u1
  ·subst h3;have l1:qs D.2.2.1=0:=by rw[d2,qp];rfl
   have q2:ltI (qs L) (qs L)=false:=by rw[qbD];simp
   have q3:ltI 0 0=false:=by rw[qbD];rfl
   rcases fi with⟨u1,h1,u2⟩|⟨u1,h1,out,u2,u3⟩
   ·subst h1;have l0:qs I.2.2.1=0:=by rw[u2,qp];rfl
    simp only[d1,u1,l0,l1,q2,q3,nself,eself,qg,qj,cond_true,cond_false,za7,zak,za4,Bool.true_or,zaT,zaY,Bool.or_self,Bool.and_false]
   ·subst h1;have hroom:qcm (qs L) (qs ([(qcu r cs,(qgv pk r,()))]:List DIR)) 48=true:=qcx (by simp;omega);have u2':qaj N (L++[(qcu r cs,(qgv pk r,()))],())=some ((out,()),()):=u2;simp only[d1,u1,l1,q2,q3,e15,hroom,qbi,u2',u3,nself,eself,qg,qj,cond_true,cond_false,za7,zak,za4,Bool.true_or,zaT,zaY,Bool.or_self,Bool.and_false,zbd]
end
end Go.Proofs.YtghccmfcndnljaaGreat
namespace Go.Proofs.YtghccmfcndnljaaGreat
open Go.Vi
noncomputable section
theorem law26' (N:Nat) (x:qgf) (r low high:qba) (h:SmI N x) (hk1:(qev x.2.2.1).length+1≤1048576) (hN:3000000<N) (hl:low.length≤1048576) (hh:high.length≤1048576):qH N (x,(r,(low,(high,()))))=some ((true,()),()):=by
 by_cases hx':¬qkG x=0
 ·exact qsX N x r low high h hx'
 have hx:=Classical.not_not.1 hx';by_cases hr':¬qeu x.1 r=0
 ·exact qs7 N x r low high h hx hr' hl hh
 have hr:=Classical.not_not.1 hr';have g:=qeW.1 hx;obtain⟨t1,t2,t3,t4⟩:=qdP g.tab;obtain⟨s1,s2⟩:=qlJ g.tab;have hs:(qav x.2.2.1).Pairwise LtR:=qlG (fun e he=>(g.keys e he).1) g.ord;have hnd:(qav x.2.2.1).Nodup:=List.nodup_iff_pairwise_ne.2 (hs.imp fun {a b} hab e=>by rw[e]at hab;exact LtR.irr hab);have hku:∀q:DIR,qrf q (qav x.2.2.1)=open Classical in decide (q.2.1∈qev x.2.2.1):=fun q=>by unfold qrf;rw[qe2]
 have hInp:InR r.length x.1.2.2.1:=by rw[(qfr hr).2.1];exact t2
 have dl:∃(D:qgf) (y3:Int),qU N (x,(r,()))=some ((D,(y3,())),())∧((prow x.1 x.2.1 r∈qav x.2.2.1∧y3=0∧qZ N (D,(x,(qmP (prow x.1 x.2.1 r) (qav x.2.2.1),())))=some ((true,()),())∧(qmP (prow x.1 x.2.1 r) (qav x.2.2.1)).length<(qav x.2.2.1).length∧qrf (prow x.1 x.2.1 r) (qav x.2.2.1)=true)∨(qmP (prow x.1 x.2.1 r) (qav x.2.2.1)=qav x.2.2.1∧y3=4∧D.2.2.1=[])):=by
  by_cases hm:prow x.1 x.2.1 r∈qav x.2.2.1
  ·obtain⟨es',hd,e⟩:=qsK N x r h hx hr hm;obtain⟨R1,R2,r1,r2⟩:=qq4 hd;have hn2:=hnd;rw[r1]at hn2;have ho:qmP (prow x.1 x.2.1 r) (qav x.2.2.1)=qav es':=by rw[r1,r2];exact qv6 hn2
   have gd:=qu8 g hd;have hlt:(qav es').length<(qav x.2.2.1).length:=by rw[r1,r2];simp
   refine⟨_,0,e,.inl ⟨hm,rfl,?_,by rw[ho];exact hlt,?_⟩⟩
   ·rw[ho];refine qhl N x.1 x.2.1 es' x.2.2.1 (qqY h.toSm gd ?_) gd;have:=qe5 es';have:=qe5 x.2.2.1;simp only;omega
   ·unfold qrf;exact decide_eq_true (zaR hm)
  ·exact⟨_,4,qp0 N x r h hx hr hm,.inr ⟨qoy hm,rfl,rfl⟩⟩
 have ins:∃(I:qgf) (y1:Int),qN N (x,(r,()))=some ((I,(y1,())),())∧((qrf (prow x.1 x.2.1 r) (qav x.2.2.1)=true∧y1=9∧I.2.2.1=[])∨(qrf (prow x.1 x.2.1 r) (qav x.2.2.1)=false∧y1=0∧∃out,qaj N (qav x.2.2.1++[prow x.1 x.2.1 r],())=some ((out,()),())∧qZ N (I,(x,(out,())))=some ((true,()),()))):=by
  by_cases hk:qgv x.1.2.2.1 r∈qev x.2.2.1
  ·exact⟨_,9,qnj N x r h hx hr hk,.inl ⟨by rw[hku];exact decide_eq_true hk,rfl,rfl⟩⟩
  ·obtain⟨es',hi,e⟩:=qo3 N x r h hx hr hk;have gi:qkD (x.1,(x.2.1,(es',()))):=qqD g (qlt hr t3 (by omega)) (by rw[qri hInp];exact qlt hr t2 (by omega)) hk hi;have hp:=qoE hi;have hs':(qav es').Pairwise LtR:=qlG (fun e he=>(gi.keys e he).1) gi.ord;have hp':(qav es').Perm (qav x.2.2.1++[prow x.1 x.2.1 r]):=hp.trans (List.perm_append_singleton _ _).symm;have hnd':(qav x.2.2.1++[prow x.1 x.2.1 r]).Nodup:=hp'.nodup_iff.1 (List.nodup_iff_pairwise_ne.2 (hs'.imp fun {a b} hab e=>by rw[e]at hab;exact LtR.irr hab));have hlen:=hp'.length_eq;have hl1:=qe5 x.2.2.1;have hl2:=qe5 es';simp only[zag,zba,List.length_nil]at hlen;have hsm:SmI N (x.1,(x.2.1,(es',()))):=qqY h.toSm gi (by simp only;omega);obtain⟨out,o1,o2,o3⟩:=qvH N (qav x.2.2.1++[prow x.1 x.2.1 r]) h.n (by simp only[zag,zba,List.length_nil];omega) (fun o ho=>by
    have ho':=hp'.mem_iff.2 ho;obtain⟨e,he,hr2⟩:=za2.1 ho';obtain⟨k,hk2,rfl⟩:=zaS.1 hr2;have a1:=hsm.vals e he;have a2:=hsm.krow k (za2.2 ⟨e,he,hk2⟩);exact⟨by simp only;omega,by simp only;omega⟩) hnd'
   have hou:out=qav es':=qjm (o2.trans hp'.symm) o3 hs';subst hou;exact⟨_,0,e,.inr ⟨by rw[hku];exact decide_eq_false hk,rfl,_,o1,qhl N x.1 x.2.1 es' x.2.2.1 hsm gi⟩⟩
 obtain⟨D,y3,d1,d2⟩:=dl;obtain⟨I,y1,i1,i2⟩:=ins;exact qsN N x r low high h hx hr hl hh i1 d1 ⟨d2,i2⟩
end
end Go.Proofs.YtghccmfcndnljaaGreat
namespace Go.Proofs.YtghccmfcndnljaaGreat
open Go.Vi
noncomputable section
theorem law26 (x:qgf×(qba×(qba×(qba×Unit)))) (hg:qmL [qK,.slice qf,.slice qf,.slice qf] x) (hb:qkl [qK,.slice qf,.slice qf,.slice qf] x≤1048576):∃N z,qH N x=some ((true,()),z):=by
 obtain⟨x,r,low,high,⟨⟩⟩:=x;have hb':(qK).bulk x+((Ty.slice qf).bulk r+((Ty.slice qf).bulk low+((Ty.slice qf).bulk high+0)))≤1048576:=hb;have hi:(qK).bulk x=(qa9).bulk x.1+((Ty.slice (.int .i64)).bulk x.2.1+((Ty.slice qC).bulk x.2.2.1+1)):=rfl;have ht:(qa9).bulk x.1=(Ty.bulk .str x.1.1)+((Ty.slice qaN).bulk x.1.2.1+((Ty.slice (.int .i64)).bulk x.1.2.2.1+1)):=rfl;have he:(Ty.slice qC).bulk x.2.2.1=(x.2.2.1.map (qC).bulk).sum+1:=rfl;have b1:=qdq qaN x.1.2.1;have b2:=qdq (.int .i64) x.1.2.2.1;have b3:=qdq (.int .i64) x.2.1;have b4:=qdq qf low;have b5:=qdq qf high;obtain⟨a1,a2,a3⟩:=qrk x.2.2.1;obtain⟨N,hNe⟩:∃N,N=4000000:=⟨_,rfl⟩;refine⟨N,(),law26' N x r low high { n:=by omega,big:=by omega,cols:=by omega,pk:=by omega,cs:=by omega,es:=by omega,vals:=fun e he=>?_,keys:=by omega,krow:=fun k hk=>?_ } (by omega) (by omega) (by omega) (by omega)⟩
 ·have:=a2 e he;omega
 ·have:=a3 k hk;omega
end
end Go.Proofs.YtghccmfcndnljaaGreat
