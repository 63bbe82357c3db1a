import Derived.Test.YtghccmfcndnljaaGreatFns
import Derived.Test.YtghccmfcndnljaaGreatViXE
import Derived.Test.YtghccmfcndnljaaGreatViXF
set_option linter.unusedVariables false
set_option linter.unusedSimpArgs false
set_option linter.unnecessarySimpa false
set_option linter.unusedSectionVars false
set_option linter.unusedSimpArgs false
set_option linter.unusedVariables false
set_option maxRecDepth 100000
set_option maxHeartbeats 0
namespace Go.Proofs.YtghccmfcndnljaaGreat
open Go.Vi
noncomputable section
theorem qif (N:Nat) (x y:Int):qaL N (x,(y,()))=some ((ic x y,()),()):=by
 simp only [qaL,qH,qbm,qul,decide_eq_true_eq,ic]
 split
 ·rfl
 ·split <;> rfl
theorem qq5 (N:Nat) (a b:List UInt8):qch N (a,(b,()))=some ((Lib.compareBytes a b,()),()):=by
 simp only [qch,qaW,qH,qg,qj,cond_true]
theorem qrq (N:Nat) (a b:qa):qc1 N (a,(b,()))=some ((vc a b,()),()):=by
 simp only [qc1,qH,qif,qq5,qg,qj,cond_true,qaN,qul,Bool.not_eq_true',decide_eq_false_iff_not,vc]
 split
 ·rfl
 ·split <;> rfl
theorem quV (N:Nat) (a b:qa):qa3 N (a,(b,()))=some ((decide (vc a b<0),()),()):=by
 simp only [qa3,qH,qaN,qbm,qtU]
 have h1:=qbp a.1 b.1
 have h2:=qbp a.2.1 b.2.1
 by_cases e1:a.1=b.1
 ·have f1:ic a.1 b.1=0:=by omega
  by_cases e2:a.2.1=b.2.1
  ·have f2:ic a.2.1 b.2.1=0:=by omega
   have:vc a b=Lib.compareBytes a.2.2.1 b.2.2.1:=by simp [vc,f1,f2]
   simp [e1,e2,this]
  ·have f2:ic a.2.1 b.2.1≠0:=by omega
   have h3:vc a b=ic a.2.1 b.2.1:=by simp [vc,f1,f2]
   have h4:a.2.1<b.2.1↔vc a b<0:=by omega
   simp [e1,e2,h4]
 ·have f1:ic a.1 b.1≠0:=by omega
  have h3:vc a b=ic a.1 b.1:=by simp [vc,f1]
  have h4:a.1<b.1↔vc a b<0:=by omega
  simp [e1,h4]
theorem qcM (N:Nat) (xs ys:qbU) (hN:xs.length<N) (hB:N≤1099511627776):qD N (xs,(ys,()))=some ((qac xs ys,()),()):=by
 simp only [qD,qH,qif,qrq,qg,qj,cond_true,Bool.and_true]
 refine qe1 (S:=Int×Unit) (R:=(Int×Unit)×Unit) (fun p=>xs.length - p.1.toNat) (fun p=>∃i:Nat,p.1=(i:Int)∧i≤xs.length∧i≤ys.length∧qac (xs.drop i) (ys.drop i)=qac xs ys) (fun _=>((qac xs ys,()),())) ?_ N _ ⟨0,rfl,Nat.zero_le _,Nat.zero_le _,rfl⟩ (by simp; omega)
 rintro ih ⟨_,_⟩ ⟨i,rfl,hx,hy,he⟩ hih
 simp only [Int.toNat_natCast] at hih⊢
 by_cases h:i<xs.length∧i<ys.length
 ·obtain ⟨h1,h2⟩:=h
  rw [qP (by rw [qbm,qkU,qn,qn]; simp; omega),qal h1,qal h2,q8 _ h1,q8 _ h2]
  simp only [Bool.and_self,cond_true]
  rw [List.drop_eq_getElem_cons h1,List.drop_eq_getElem_cons h2,qac] at he
  by_cases hv:vc xs[i] ys[i]=0
  ·rw [if_neg (fun h=>h hv)] at he
   rw [qB (by rw [qaN,hv]; rfl),qaA (by omega)]
   exact hih _ ⟨i+1,rfl,h1,h2,he⟩ (by simp only [Int.toNat_natCast]; omega)
  ·rw [if_pos hv] at he
   rw [qP (by rw [qaN]; simp [hv]),he]
 ·rw [qB (by rw [qbm,qkU,qn,qn]; simp; omega)]
  rw [qmO xs ys i h hx hy] at he
  rw [qn,qn,he]
theorem qd8 (N:Nat) (xs ys:qbU) (hN:xs.length<N) (hB:N≤1099511627776):qZ N (xs,(ys,()))=some ((qac xs ys,()),()):=by
 simp only [qZ,qH,quV,qg,qj,cond_true,Bool.and_true]
 refine qe1 (S:=Int×Unit) (R:=(Int×Unit)×Unit) (fun p=>xs.length - p.1.toNat) (fun p=>∃i:Nat,p.1=(i:Int)∧i≤xs.length∧i≤ys.length∧qac (xs.drop i) (ys.drop i)=qac xs ys) (fun _=>((qac xs ys,()),())) ?_ N _ ⟨0,rfl,Nat.zero_le _,Nat.zero_le _,rfl⟩ (by simp; omega)
 rintro ih ⟨_,_⟩ ⟨i,rfl,hx,hy,he⟩ hih
 simp only [Int.toNat_natCast] at hih⊢
 by_cases h:i<xs.length∧i<ys.length
 ·obtain ⟨h1,h2⟩:=h
  rw [qbE h1,qbE h2,qal h1,qal h2,q8 _ h1,q8 _ h2]
  simp only [Bool.and_self,cond_true]
  rw [List.drop_eq_getElem_cons h1,List.drop_eq_getElem_cons h2,qac] at he
  have hs:=qrB xs[i] ys[i]
  rcases qtq xs[i] ys[i] with hv|hv|hv
  ·rw [if_pos (by omega)] at he
   rw [qP (by rw [hv]; rfl),←he,hv]
  ·rw [if_neg (fun h=>h hv)] at he
   rw [qB (by rw [hv]; rfl),qB (by rw [hs,hv]; rfl),qaA (by omega)]
   exact hih _ ⟨i+1,rfl,h1,h2,he⟩ (by simp only [Int.toNat_natCast]; omega)
  ·rw [if_pos (by omega)] at he
   rw [qB (by rw [hv]; rfl),qP (by rw [hs,hv]; rfl),←he,hv]
 ·rw [qB (by
   rw [qbm,qbm,qn,qn]
   simp only [Bool.and_eq_false_iff,decide_eq_false_iff_not]
   omega)]
  rw [qmO xs ys i h hx hy] at he
  rw [qn,qn,←he]
  have:=qbp (xs.length:Int) (ys.length:Int)
  rcases this with ⟨h1,h2⟩|⟨h1,h2⟩|⟨h1,h2⟩
  ·rw [qP (by rw [qbm]; simp; omega),h2]
  ·rw [qB (by rw [qbm]; simp; omega),qB (by rw [qbm]; simp; omega),h2]
  ·rw [qB (by rw [qbm]; simp; omega),qP (by rw [qbm]; simp; omega),h2]
theorem qs0 (N:Nat) (pk:List Int) (row:qbU) (hN:pk.length<N) (hb:pk.length≤1099511627776):
  qab (S:=((List qa)×(Int×Unit))) (R:=(((List qa)×Unit)×Unit)) N (fun ih0=>(fun p1=>(bif (ltI p1.2.1 (qt pk)) then (bif (inB p1.2.1 (qt pk)) then (q9 ((leI 0 (qk pk p1.2.1 0))&&(ltI (qk pk p1.2.1 0) (qt row))) (fun y2=>(bif (bif y2 then (inB (qk pk p1.2.1 0) (qt row)) else true) then (q9 (bif y2 then (qk row (qk pk p1.2.1 0) (0,(0,(([]:List UInt8),())))) else (0,(0,(([]:List UInt8),())))) (fun y3=>(bif (qcX (qt p1.1) (qt ([y3]:List qa)) 32) then (ih0 ((qe2 p1.1 ([y3]:List qa)),((qK .i64 p1.2.1 1),()))) else none))) else none))) else none) else (some ((p1.1,()),()))))) (([]:List qa),(0,()))=some ((qiA pk row,()),()):=by
 simp only [qH]
 refine qeE (S:=((List qa)×(Int×Unit))) (fun i=>(qiA (pk.take i) row,((i:Int),()))) pk.length _ (by simp [qiA]) (fun i hi ih=> ?_) (fun ih=> ?_) hN
 ·have e1:qiA (pk.take (i+1)) row=qiA (pk.take i) row++[qsq row pk[i]]:=by unfold qiA; rw [qcn hi,List.map_append]; rfl
  have e2:(bif (leI 0 pk[i]&&ltI pk[i] (qt row)) then qk row pk[i] (0,(0,(([]:List UInt8),()))) else (0,(0,(([]:List UInt8),()))))=qsq row pk[i]:=by
   unfold qsq
   by_cases h:0≤pk[i]∧pk[i]<(row.length:Int)
   ·rw [dif_pos h,qP (by rw [qbz,qbm,qn]; simp; exact h)]
    obtain ⟨k,hk⟩:∃k:Nat,pk[i]=(k:Int):=⟨pk[i].toNat,by omega⟩
    have hk':k<row.length:=by omega
    simp only [hk,Int.toNat_natCast]
    exact q8 _ hk'
   ·rw [dif_neg h,qB (by rw [qbz,qbm,qn]; simp; omega)]
  have e3:(bif (leI 0 pk[i]&&ltI pk[i] (qt row)) then inB pk[i] (qt row) else true)=true:=by
   cases hc:(leI 0 pk[i]&&ltI pk[i] (qt row)) with
   |false=>rfl
   |true=>
    rw [qbz,qbm,qn] at hc
    rw [cond_true,qfe,qn]
    simpa using hc
  simp only
  rw [qP (qbE hi),qal hi,cond_true,q8 _ hi,e3,cond_true,e2,qP (qdC (by rw [qkN,List.length_take]; simp; omega)),qaA (by omega),qbw,e1]
 ·simp only
  rw [qB (qbv (Nat.lt_irrefl _)),List.take_length]
theorem quz (N:Nat) (t:qx) (row:qbU) (hN:t.2.2.1.length<N) (hB:N≤1099511627776):qew N (t,(row,()))=some ((qiA t.2.2.1 row,()),()):=qs0 N t.2.2.1 row hN (by omega)
theorem qun (N:Nat) (t:qx) (row:qbU) (hN:t.2.2.1.length<N) (hB:N≤1099511627776):qcH N (t,(row,()))=some ((qiA t.2.2.1 row,()),()):=by
 have h:qcS N (row,(t.2.2.1,()))=some ((qiA t.2.2.1 row,()),()):=qs0 N t.2.2.1 row hN (by omega)
 simp only [qcH,h,qg,qj,cond_true]
def qrx (v:qa):Int:=
 if v.1=0 then (if v.2.1≠0∨v.2.2.1≠[] then 3 else 0)
 else if v.1=1∨v.1=2 then (if v.2.2.1≠[] then 3 else if (v.1=2∧v.2.1≠0∧v.2.1≠1)∨v.2.1< -1000000000000∨1000000000000<v.2.1 then 1 else 0)
 else if v.1=3 then (if v.2.1≠0 then 3 else if 24<(v.2.2.1.length:Int) then 2 else 0)
 else 7
theorem qpx (N:Nat) (v:qa):qcF N (v,())=some ((qrx v,()),()):=by
 obtain ⟨k,n,s,_⟩:=v
 simp only [qcF,qH,quK]
 simp only [qbg,qaN,qbm,qlD,qn,qrx,qul,condB,Bool.or_eq_true,Bool.and_eq_true,Bool.not_eq_true',decide_eq_true_eq,decide_eq_false_iff_not,Bool.and_eq_false_iff,Bool.or_eq_false_iff,Bool.not_eq_false']
 grind
theorem qkD (N:Nat) (v:qa):qbj N (v,())=some ((qrx v,()),()):=by
 obtain ⟨k,n,s,_⟩:=v
 simp only [qbj,qH,quK]
 simp only [qbg,qaN,qbm,qlD,qn,qrx,qul,condB,Bool.or_eq_true,Bool.and_eq_true,Bool.not_eq_true',decide_eq_true_eq,decide_eq_false_iff_not,Bool.and_eq_false_iff,Bool.or_eq_false_iff,Bool.not_eq_false']
 have hs:s=[]→(s.length:Int)=0:=by rintro rfl; rfl
 have hk:k<0∨k=0∨k=1∨k=2∨k=3∨3<k:=by omega
 rcases hk with hk|hk|hk|hk|hk|hk <;> grind
def qcC:List qa→Int
 |[]=>0
 |v::r=>if qrx v≠0 then qrx v else qcC r
def qeP (r:List qa):Int:=if 12<r.length then 2 else qcC r
theorem qjx: {r:List qa} →qcC r=0→∀v∈r,qrx v=0
 |[],_,_,h=>by cases h
 |v::r,h,u,hu=>by
  simp only [qcC] at h
  split at h
  ·rename_i h0; exact absurd h h0
  ·rename_i h0
   rcases List.mem_cons.1 hu with rfl|hu
   ·exact Classical.byContradiction h0
   ·exact qjx h u hu
theorem qlA (N:Nat) (r:List qa) (hN:20<N):qbf N (r,())=some ((qeP r,()),()):=by
 simp only [qbf,qH,qeP]
 by_cases h:12<r.length
 ·rw [if_pos h,qP (by rw [qbm,qn]; simp; omega)]
 ·rw [if_neg h,qB (by rw [qbm,qn]; simp; omega)]
  refine qe1 (S:=Int×Unit) (R:=(Int×Unit)×Unit) (fun p=>r.length - p.1.toNat) (fun p=>∃i:Nat,p.1=(i:Int)∧i≤r.length) (fun p=>((qcC (r.drop p.1.toNat),()),())) ?_ N _ ⟨0,rfl,Nat.zero_le _⟩ (by simp; omega)
  rintro ih ⟨_,_⟩ ⟨i,rfl,h2⟩ hih
  simp only [Int.toNat_natCast] at hih⊢
  by_cases hi:i<r.length
  ·have hg:qk r (i:Int) (0,(0,([],())))=r[i]:=qnX (List.getElem?_eq_getElem hi)
   rw [qP (qbE hi),qP (qal hi)]
   simp only [hg,qpx,qg,qj,cond_true,qaN]
   rw [qm2 hi]
   by_cases he:qrx r[i]=0
   ·rw [qB (by simp [he]),qaA (by omega),hih _ ⟨i+1,rfl,by omega⟩ (by simp only [Int.toNat_natCast]; omega)]
    simp only [Int.toNat_natCast,qcC,he,ne_eq,not_true_eq_false,if_false]
   ·rw [qP (by simp [he])]
    simp only [qcC,ne_eq,he,not_false_eq_true,if_true]
  ·have hi':i=r.length:=by omega
   rw [qB (qbv hi)]
   subst hi'
   simp only [List.drop_length,qcC]
theorem qid (N:Nat) (r:List qa) (hN:20<N):qbh N (r,())=some ((qeP r,()),()):=by
 simp only [qbh,qH,qeP]
 by_cases h:12<r.length
 ·rw [if_pos h,qP (by rw [qbm,qn]; simp; omega)]
 ·rw [if_neg h,qB (by rw [qbm,qn]; simp; omega)]
  refine qe1 (S:=Int×Unit) (R:=(Int×Unit)×Unit) (fun p=>r.length - p.1.toNat) (fun p=>∃i:Nat,p.1=(i:Int)∧i≤r.length) (fun p=>((qcC (r.drop p.1.toNat),()),())) ?_ N _ ⟨0,rfl,Nat.zero_le _⟩ (by simp; omega)
  rintro ih ⟨_,_⟩ ⟨i,rfl,h2⟩ hih
  simp only [Int.toNat_natCast] at hih⊢
  by_cases hi:i<r.length
  ·have hg:qk r (i:Int) (0,(0,([],())))=r[i]:=qnX (List.getElem?_eq_getElem hi)
   rw [qP (qbE hi),qP (qal hi)]
   simp only [hg,qkD,qg,qj,cond_true,qaN]
   rw [qm2 hi]
   by_cases he:qrx r[i]=0
   ·rw [qB (by simp [he]),qaA (by omega),hih _ ⟨i+1,rfl,by omega⟩ (by simp only [Int.toNat_natCast]; omega)]
    simp only [Int.toNat_natCast,qcC,he,ne_eq,not_true_eq_false,if_false]
   ·rw [qP (by simp [he])]
    simp only [qcC,ne_eq,he,not_false_eq_true,if_true]
  ·have hi':i=r.length:=by omega
   rw [qB (qbv hi)]
   subst hi'
   simp only [List.drop_length,qcC]
theorem qfE (N:Nat) (xs ys:qbU) (hN:xs.length<N) (hb:xs.length≤1099511627776):qT N (xs,(ys,()))=some ((decide (xs=ys),()),()):=by
 simp only [qT]
 by_cases hl:xs.length=ys.length
 ·rw [qB (by rw [qaN,qn,qn,hl]; simp)]
  refine qs6 (ne:=fun (a b:qa)=> !((eqI a.1 b.1)&&((eqI a.2.1 b.2.1)&&(eqS a.2.2.1 b.2.2.1)))) (fun a b=> ?_) xs ys (0,(0,(([]:List UInt8),()))) hl hb hN
  obtain ⟨a1,a2,a3,⟨⟩⟩:=a
  obtain ⟨b1,b2,b3,⟨⟩⟩:=b
  simp only [qlD,qbg,Prod.mk.injEq,and_true,Bool.decide_and]
 ·rw [qP (by rw [qaN,qn,qn]; simp; omega)]
  have:xs≠ys:=fun h=>hl (by rw [h])
  simp [this]
end
end Go.Proofs.YtghccmfcndnljaaGreat
namespace Go.Proofs.YtghccmfcndnljaaGreat
open Go.Vi
noncomputable section
theorem qr4 (N:Nat) (xs:List Int) (c:Int) (hN:xs.length<N) (hb:N≤1099511627776):∃k:Int,qbL N (xs,(c,()))=some ((k,()),())∧(0≤k↔c∈xs):=by
 have key:qbL N (xs,(c,()))=match qY (fun i=>if xs[i]? =some c then some (i:Int) else none) xs.length with
   |some e=>some ((e,()),())
   |none=>some ((-1,()),()):=by
  simp only [qbL]
  refine (qaM (S:=Int×Unit) (fun i=>((i:Int),())) xs.length (fun i=>if xs[i]? =some c then some (i:Int) else none) (fun e=>some ((e,()),())) (some ((-1,()),())) rfl (fun i hi _ ih=> ?_) (fun _ ih=> ?_) hN).trans ?_
  ·simp only [qbE hi,qal hi,cond_true,q8 _ hi,qaA (show i<4611686018427387904 by omega),qbg,List.getElem?_eq_getElem hi,Option.some.injEq]
   by_cases h:xs[i]=c
   ·rw [if_pos h,decide_eq_true h.symm,cond_true]
   ·rw [if_neg h,decide_eq_false (fun e=>h e.symm),cond_false]
  ·simp only
   rw [qB (qbv (Nat.lt_irrefl _))]
  ·cases qY (fun i=>if xs[i]? =some c then some (i:Int) else none) xs.length <;> rfl
 rw [key]
 cases hf:qY (fun i=>if xs[i]? =some c then some (i:Int) else none) xs.length with
 |none=>
  refine ⟨-1,rfl,⟨fun h=>by omega,fun h=> ?_⟩⟩
  obtain ⟨i,hi,he⟩:=List.getElem_of_mem h
  have:=qa1 hf i hi
  simp only [List.getElem?_eq_getElem hi,he,if_true] at this
  cases this
 |some e=>
  obtain ⟨i,h1,h2,_⟩:=qaQ hf
  split at h2
  ·rename_i h3
   injection h2 with h2
   subst h2
   exact ⟨_,rfl,⟨fun _=>List.mem_of_getElem? h3,fun _=>by omega⟩⟩
  ·cases h2
theorem qou (N:Nat) (xs:List Int) (c:Int) (hN:xs.length<N) (hb:N≤1099511627776):qaZ N (xs,(c,()))=some ((decide (c∈xs),()),()):=by
 obtain ⟨k,h1,h2⟩:=qr4 N xs c hN hb
 simp only [qaZ,h1,qg,qj,cond_true,qd4]
 by_cases h:c∈xs
 ·rw [decide_eq_true h,decide_eq_true (h2.2 h)]
 ·rw [decide_eq_false h,decide_eq_false (fun q=>h (h2.1 q))]
def qg9 (ks:List Int):List (Int×Bool):=ks.foldl (fun m k=>qmI m k true) []
theorem qjR (ks:List Int) (k:Int):qg9 (ks++[k])=qmI (qg9 ks) k true:=by simp [qg9]
theorem qsA (ks:List Int) (k:Int):qkv (qg9 ks) k false=decide (k∈ks):=by
 have:∀l:List Int,qkv (qg9 l.reverse) k false=decide (k∈l.reverse):=by
  intro l
  induction l with
  |nil=>simp [qg9,qtC]
  |cons a l ih=>
   rw [List.reverse_cons,qjR,qs5,ih]
   by_cases h:a=k
   ·rw [if_pos h]; simp [h]
   ·rw [if_neg h]
    have:¬k=a:=fun e=>h e.symm
    simp [this]
 have:=this ks.reverse
 rwa [List.reverse_reverse] at this
theorem qtB {α β:Type} (xs:List (α×β)) (k:α) (v:β):1≤(qmI xs k v).length∧xs.length≤(qmI xs k v).length∧(qmI xs k v).length≤xs.length+1:=by
 induction xs with
 |nil=>rw [qp6]; simp
 |cons p xs ih=>
  rw [qoX]
  split
  ·simp
  ·simp only [List.length_cons]; omega
theorem qtd (ks:List Int):(qg9 ks).length≤ks.length∧((qg9 ks).length=0↔ks=[]):=by
 have:∀l:List Int,(qg9 l.reverse).length≤l.length∧((qg9 l.reverse).length=0↔l=[]):=by
  intro l
  induction l with
  |nil=>simp [qg9]
  |cons a l ih=>
   rw [List.reverse_cons,qjR]
   have:=qtB (qg9 l.reverse) a true
   simp only [List.length_cons,reduceCtorEq,iff_false]
   omega
 have:=this ks.reverse
 rw [List.reverse_reverse,List.length_reverse] at this
 simpa using this
def pkG (n:Nat) (pk:List Int) (i:Nat):Option Int:=if pk.getD i 0<0∨(n:Int)≤pk.getD i 0∨(0<i∧pk.getD i 0≤pk.getD (i - 1) 0) then some 3 else none
def qn2 (n:Nat) (cs:List Int) (i:Nat):Option Int:=if cs.getD i 0<0∨(n:Int)≤cs.getD i 0∨cs.getD i 0∈cs.take i then some 1 else none
def qjt (t:qx) (cs:List Int):Int:=
 if 6<t.2.1.length then 2 else match qY (pkG t.2.1.length t.2.2.1) t.2.2.1.length with
 |some e=>e
 |none=>if t.2.2.1.length=0 then 3 else match qY (qn2 t.2.1.length cs) cs.length with
  |some e=>e
  |none=>if cs.length=0 then 1 else 0
theorem qgC (N:Nat) (t:qx) (cs:List Int) (h1:t.2.2.1.length<N) (h2:cs.length<N) (hB:N≤1099511627776):qax N (t,(cs,()))=some ((qjt t cs,()),()):=by
 simp only [qax,qH,qjt]
 by_cases h6:6<t.2.1.length
 ·rw [if_pos h6,qP (by rw [qbm,qn]; simp; omega)]
 rw [if_neg h6,qB (by rw [qbm,qn]; simp; omega)]
 have inner:(qab (S:=(Int×Unit)) (R:=((Int×Unit)×Unit)) N (fun ih2=>(fun p3=>(bif (ltI p3.1 (qt cs)) then (bif (inB p3.1 (qt cs)) then (bif (((!(!((ltI (qk cs p3.1 0) 0)||(leI (qt t.2.1) (qk cs p3.1 0)))))||(inS 0 p3.1 (qt cs)))&&((!(!((ltI (qk cs p3.1 0) 0)||(leI (qt t.2.1) (qk cs p3.1 0)))))||(qw (qaZ N ((qbe cs 0 p3.1),((qk cs p3.1 0),())))))) then (bif (((ltI (qk cs p3.1 0) 0)||(leI (qt t.2.1) (qk cs p3.1 0)))||(qr (qaZ N ((qbe cs 0 p3.1),((qk cs p3.1 0),()))) ((false,()),())).1.1) then (some ((1,()),())) else (ih2 ((qK .i64 p3.1 1),()))) else none) else none) else (bif (eqI (qt cs) 0) then (some ((1,()),())) else (some ((0,()),())))))) (0,()))=match qY (qn2 t.2.1.length cs) cs.length with
   |some e=>some ((e,()),())
   |none=>some (((if cs.length=0 then 1 else 0),()),()):=by
  refine (qaM (S:=Int×Unit) (fun i=>((i:Int),())) cs.length (qn2 t.2.1.length cs) (fun e=>some ((e,()),())) (some (((if cs.length=0 then 1 else 0),()),())) rfl (fun i hi _ ih=> ?_) (fun _ ih=> ?_) h2).trans ?_
  ·have hd:cs.getD i 0=cs[i]:=by rw [List.getD_eq_getElem?_getD,List.getElem?_eq_getElem hi]; rfl
   have hs:inS 0 (i:Int) (qt cs)=true:=by rw [qsH,qn]; simp; omega
   simp only [qbE hi,qal hi,cond_true,q8 _ hi,qaA (show i<4611686018427387904 by omega),qqm,qou N (cs.take i) _ (by rw [List.length_take]; omega) hB,qg,qj,hs,Bool.or_true,Bool.and_self]
   simp only [qn2,hd,qbB,qd4,qn]
   by_cases q:cs[i]<0∨(t.2.1.length:Int)≤cs[i]∨cs[i]∈cs.take i
   ·rw [if_pos q,qP (by simpa [or_assoc,and_assoc] using q)]
   ·rw [if_neg q,qB (by simpa [or_assoc,and_assoc] using q)]
  ·simp only
   rw [qB (qbv (Nat.lt_irrefl _)),qbg,qn]
   by_cases q:cs.length=0
   ·rw [if_pos q,qP (by simp [q])]
   ·rw [if_neg q,qB (decide_eq_false (by omega))]
  ·cases qY (qn2 t.2.1.length cs) cs.length <;> rfl
 rw [inner]
 refine (qaM (S:=Int×Unit) (fun i=>((i:Int),())) t.2.2.1.length (pkG t.2.1.length t.2.2.1) (fun e=>some ((e,()),())) (some (((if t.2.2.1.length=0 then 3 else match qY (qn2 t.2.1.length cs) cs.length with
  |some e=>e
  |none=>if cs.length=0 then 1 else 0),()),())) rfl (fun i hi _ ih=> ?_) (fun _ ih=> ?_) h1).trans ?_
 ·have hd:t.2.2.1.getD i 0=t.2.2.1[i]:=by rw [List.getD_eq_getElem?_getD,List.getElem?_eq_getElem hi]; rfl
  simp only [qbE hi,qal hi,cond_true,q8 _ hi,qaA (show i<4611686018427387904 by omega)]
  simp only [pkG,hd,qbB,qd4,qn]
  cases i with
  |zero=>
   simp only [Nat.lt_irrefl,false_and,or_false,Int.ofNat_zero,Int.lt_irrefl,decide_false,Bool.false_and,Bool.not_false,Bool.true_or,cond_true,Bool.or_false]
   by_cases q:t.2.2.1[0]<0∨(t.2.1.length:Int)≤t.2.2.1[0]
   ·rw [if_pos q,qP (by simpa using q)]
   ·rw [if_neg q,qB (by simpa using q)]
  |succ i=>
   have hi':i<t.2.2.1.length:=by omega
   have s1:qG .i64 ((i+1:Nat):Int) 1=(i:Int):=by rw [qao (by omega) (by omega)]; omega
   have hd':t.2.2.1.getD i 0=t.2.2.1[i]:=by rw [List.getD_eq_getElem?_getD,List.getElem?_eq_getElem hi']; rfl
   simp only [s1,q8 _ hi',show inB (i:Int) (t.2.2.1.length:Int)=true from qpI hi',Bool.or_true,cond_true,Nat.add_sub_cancel,hd',Nat.succ_pos,true_and]
   by_cases q:t.2.2.1[i+1]<0∨(t.2.1.length:Int)≤t.2.2.1[i+1]∨t.2.2.1[i+1]≤t.2.2.1[i]
   ·rw [if_pos q,qP (by
     have:(0:Int)<((i+1:Nat):Int):=by omega
     simp only [decide_eq_true this,Bool.true_and]
     simpa [or_assoc,and_assoc] using q)]
   ·rw [if_neg q,qB (by
     have:(0:Int)<((i+1:Nat):Int):=by omega
     simp only [decide_eq_true this,Bool.true_and]
     simpa [or_assoc,and_assoc] using q)]
 ·simp only
  rw [qB (qbv (Nat.lt_irrefl _)),qbg,qn]
  by_cases q:t.2.2.1.length=0
  ·rw [if_pos q,qP (by simp [q])]
  ·rw [if_neg q,qB (decide_eq_false (by omega))]
   cases qY (qn2 t.2.1.length cs) cs.length <;> rfl
 ·cases qY (pkG t.2.1.length t.2.2.1) t.2.2.1.length <;> rfl
def qnS (pk:List Int) (i:Nat):Int:=if i=0 then -1 else pk.getD (i - 1) 0
theorem qhh (N:Nat) (t:qx) (cs:List Int) (h1:t.2.2.1.length<N) (h2:cs.length<N) (hB:N≤1099511627776):qas N (t,(cs,()))=some ((qjt t cs,()),()):=by
 simp only [qas,qH,qjt]
 by_cases h6:6<t.2.1.length
 ·rw [if_pos h6,qP (by rw [qbm,qn]; simp; omega)]
 rw [if_neg h6,qB (by rw [qbm,qn]; simp; omega)]
 have inner:(qab (S:=((List (Int×Bool))×(Int×Unit))) (R:=((Int×Unit)×Unit)) N (fun ih2=>(fun p3=>(bif (ltI p3.2.1 (qt cs)) then (bif (inB p3.2.1 (qt cs)) then (bif (((ltI (qk cs p3.2.1 0) 0)||(leI (qt t.2.1) (qk cs p3.2.1 0)))||(qkv p3.1 (qk cs p3.2.1 0) false)) then (some ((1,()),())) else (ih2 ((qmI p3.1 (qk cs p3.2.1 0) true),((qK .i64 p3.2.1 1),())))) else none) else (bif (leI (qt (qq9 p3.1)) 1099511627776) then (bif (eqI (qt (qq9 p3.1)) 0) then (some ((1,()),())) else (some ((0,()),()))) else none)))) (([]:List (Int×Bool)),(0,())))=match qY (qn2 t.2.1.length cs) cs.length with
   |some e=>some ((e,()),())
   |none=>some (((if cs.length=0 then 1 else 0),()),()):=by
  refine (qaM (S:=List (Int×Bool)×(Int×Unit)) (fun i=>(qg9 (cs.take i),((i:Int),()))) cs.length (qn2 t.2.1.length cs) (fun e=>some ((e,()),())) (some (((if cs.length=0 then 1 else 0),()),())) rfl (fun i hi _ ih=> ?_) (fun _ ih=> ?_) h2).trans ?_
  ·have hd:cs.getD i 0=cs[i]:=by rw [List.getD_eq_getElem?_getD,List.getElem?_eq_getElem hi]; rfl
   have e1:qg9 (cs.take (i+1))=qmI (qg9 (cs.take i)) cs[i] true:=by rw [qcn hi,qjR]
   simp only [qbE hi,qal hi,cond_true,q8 _ hi,qaA (show i<4611686018427387904 by omega),qsA,e1]
   simp only [qn2,hd,qbB,qd4,qn]
   by_cases q:cs[i]<0∨(t.2.1.length:Int)≤cs[i]∨cs[i]∈cs.take i
   ·rw [if_pos q,qP (by simpa [or_assoc,and_assoc] using q)]
   ·rw [if_neg q,qB (by simpa [or_assoc,and_assoc] using q)]
  ·simp only
   have hl:=qtd cs
   have hp:(qq9 (qg9 cs)).length=(qg9 cs).length:=(qoA _).length_eq
   rw [qB (qbv (Nat.lt_irrefl _)),List.take_length,qn,hp,qP (by rw [qd4]; simp; omega),qbg]
   by_cases q:cs.length=0
   ·rw [if_pos q,qP (by
     have:=hl.2.2 (List.length_eq_zero_iff.1 q)
     simp [this])]
   ·rw [if_neg q,qB (by
     have:¬(qg9 cs).length=0:=fun e=>q (by rw [hl.2.1 e]; rfl)
     exact decide_eq_false (by omega))]
  ·cases qY (qn2 t.2.1.length cs) cs.length <;> rfl
 rw [inner]
 refine (qaM (S:=Int×(Int×Unit)) (fun i=>(qnS t.2.2.1 i,((i:Int),()))) t.2.2.1.length (pkG t.2.1.length t.2.2.1) (fun e=>some ((e,()),())) (some (((if t.2.2.1.length=0 then 3 else match qY (qn2 t.2.1.length cs) cs.length with
  |some e=>e
  |none=>if cs.length=0 then 1 else 0),()),())) rfl (fun i hi hf ih=> ?_) (fun hf ih=> ?_) h1).trans ?_
 ·have hd:t.2.2.1.getD i 0=t.2.2.1[i]:=by rw [List.getD_eq_getElem?_getD,List.getElem?_eq_getElem hi]; rfl
  have hl:qnS t.2.2.1 (i+1)=t.2.2.1[i]:=by simp only [qnS,Nat.add_one_ne_zero,if_false,Nat.add_sub_cancel]; exact hd
  simp only [qbE hi,qal hi,cond_true,q8 _ hi,qaA (show i<4611686018427387904 by omega),hl]
  simp only [pkG,hd,qbB,qd4,qn]
  have hq:(t.2.2.1[i]≤qnS t.2.2.1 i∨(t.2.1.length:Int)≤t.2.2.1[i])↔(t.2.2.1[i]<0∨(t.2.1.length:Int)≤t.2.2.1[i]∨(0<i∧t.2.2.1[i]≤t.2.2.1.getD (i - 1) 0)):=by
   cases i with
   |zero=>simp only [qnS,if_true,Nat.lt_irrefl,false_and,or_false]; omega
   |succ i=>
    have:=qa1 hf i (by omega)
    simp only [pkG] at this
    split at this
    ·cases this
    ·rename_i hn
     simp only [qnS,Nat.add_one_ne_zero,if_false,Nat.add_sub_cancel,Nat.succ_pos,true_and]
     omega
  by_cases q:t.2.2.1[i]≤qnS t.2.2.1 i∨(t.2.1.length:Int)≤t.2.2.1[i]
  ·rw [if_pos (hq.1 q),qP (by simpa using q)]
  ·rw [if_neg (fun e=>q (hq.2 e)),qB (by simpa using q)]
 ·simp only
  rw [qB (qbv (Nat.lt_irrefl _)),qbB]
  by_cases q:t.2.2.1.length=0
  ·rw [if_pos q,qP (by simp [qnS,q])]
  ·rw [if_neg q,qB (by
    have:=qa1 hf (t.2.2.1.length - 1) (by omega)
    simp only [pkG] at this
    split at this
    ·cases this
    ·rename_i hn
     simp only [qnS,if_neg q,decide_eq_false_iff_not]
     omega)]
   cases qY (qn2 t.2.1.length cs) cs.length <;> rfl
 ·cases qY (pkG t.2.1.length t.2.2.1) t.2.2.1.length <;> rfl
end
end Go.Proofs.YtghccmfcndnljaaGreat
namespace Go.Proofs.YtghccmfcndnljaaGreat
open Go.Vi
noncomputable section
abbrev zC:qe:=(([]:List UInt8),(0,(false,())))
def InR (n:Nat) (cs:List Int):Prop:=∀k∈cs,0≤k∧k<(n:Int)
theorem qgn {t:qx} {cs:List Int} (h:qjt t cs=0):t.2.1.length≤6∧InR t.2.1.length t.2.2.1∧InR t.2.1.length cs∧(∀i,i+1<t.2.2.1.length→t.2.2.1.getD i 0<t.2.2.1.getD (i+1) 0):=by
 unfold qjt at h
 split at h
 ·cases h
 rename_i h6
 split at h
 ·rename_i e he
  obtain ⟨i,_,h2,_⟩:=qaQ he
  simp only [pkG] at h2
  split at h2
  ·injection h2 with h2; omega
  ·cases h2
 rename_i hp
 split at h
 ·cases h
 split at h
 ·rename_i e he
  obtain ⟨i,_,h2,_⟩:=qaQ he
  simp only [qn2] at h2
  split at h2
  ·injection h2 with h2; omega
  ·cases h2
 rename_i hc
 refine ⟨by omega,fun k hk=> ?_,fun k hk=> ?_,fun i hi=> ?_⟩
 ·obtain ⟨i,hi,rfl⟩:=List.getElem_of_mem hk
  have:=qa1 hp i hi
  simp only [pkG] at this
  split at this
  ·cases this
  ·rename_i hn
   rw [List.getD_eq_getElem?_getD,List.getElem?_eq_getElem hi,Option.getD_some] at hn
   omega
 ·obtain ⟨i,hi,rfl⟩:=List.getElem_of_mem hk
  have:=qa1 hc i hi
  simp only [qn2] at this
  split at this
  ·cases this
  ·rename_i hn
   rw [List.getD_eq_getElem?_getD,List.getElem?_eq_getElem hi,Option.getD_some] at hn
   simp only [not_or] at hn
   omega
 ·have:=qa1 hp (i+1) hi
  simp only [pkG] at this
  split at this
  ·cases this
  ·rename_i hn
   simp only [Nat.add_sub_cancel,Nat.succ_pos,true_and] at hn
   omega
def qto (c:qe) (v:qug):Bool:=decide (v.1=c.2.1)||(decide (v.1=0)&&c.2.2.1)
def qti (t:qx) (cs:List Int) (r:qbU) (i:Nat):Option Bool:=if qto (qk t.2.1 (cs.getD i 0) zC) (r.getD i zV)=true then none else some false
def qmL (t:qx) (cs:List Int) (r:qbU):Bool:=decide (r.length=cs.length)&&(decide (qeP r=0)&&(qY (qti t cs r) r.length).isNone)
theorem qaf {α:Type} {xs:List α} {i:Nat} (d:α) (h:i<xs.length):xs.getD i d=xs[i]:=by rw [List.getD_eq_getElem?_getD,List.getElem?_eq_getElem h]; rfl
theorem qm6 (N:Nat) (t:qx) (cs:List Int) (r:qbU) (hc:InR t.2.1.length cs) (h2:cs.length<N) (hN:20<N) (hB:N≤1099511627776):qbi N (t,(cs,(r,())))=some ((qmL t cs r,()),()):=by
 simp only [qbi,qH,qlA N r hN,qg,qj,Bool.or_true,cond_true,qaN,qn,qmL]
 by_cases hl:r.length=cs.length
 ·by_cases he:qeP r=0
  ·rw [qB (by simp [hl,he]),decide_eq_true hl,decide_eq_true he,Bool.true_and,Bool.true_and,hl]
   refine (qaM (S:=Int×Unit) (fun i=>((i:Int),())) cs.length (qti t cs r) (fun e=>some ((e,()),())) (some ((true,()),())) rfl (fun i hi _ ih=> ?_) (fun _ ih=> ?_) h2).trans ?_
   ·have hr:i<r.length:=by omega
    have hk:=hc cs[i] (List.getElem_mem hi)
    simp only [←qn,qbE hi,qal hi,qal hr,cond_true,q8 _ hi,q8 _ hr,qaA (show i<4611686018427387904 by omega),Bool.or_true,Bool.and_self,show inB cs[i] (qt t.2.1)=true from by rw [qfR,qn]; exact decide_eq_true hk]
    simp only [qti,qaf _ hi,qaf _ hr,qto]
    simp only [zC]
    generalize (r[i]).1=a
    generalize (qk t.2.1 cs[i] (([]:List UInt8),(0,(false,())))).2.1=b
    generalize (qk t.2.1 cs[i] (([]:List UInt8),(0,(false,())))).2.2.1=c
    by_cases q1:a=b <;> by_cases q2:a=0 <;> cases c <;> simp_all
   ·simp only
    rw [qB (by rw [qbB]; simp)]
   ·cases hf:qY (qti t cs r) cs.length with
    |none=>rfl
    |some e=>
     obtain ⟨i,_,k2,_⟩:=qaQ hf
     unfold qti at k2
     split at k2
     ·cases k2
     ·injection k2 with k2
      subst k2
      rfl
  ·rw [qP (by simp [he]),decide_eq_false he]
   simp
 ·rw [qP (by simp; omega),decide_eq_false hl]
  simp
theorem qhi (N:Nat) (t:qx) (cs:List Int) (r:qbU) (hc:InR t.2.1.length cs) (h2:cs.length<N) (hN:20<N) (hB:N≤1099511627776):qar N (t,(cs,(r,())))=some ((qmL t cs r,()),()):=by
 simp only [qar,qH,qid N r hN,qg,qj,Bool.or_true,cond_true,qaN,qn,qmL]
 by_cases hl:r.length=cs.length
 ·by_cases he:qeP r=0
  ·rw [qB (by simp [hl,he]),decide_eq_true hl,decide_eq_true he,Bool.true_and,Bool.true_and]
   refine (qaM (S:=Int×Unit) (fun i=>((i:Int),())) r.length (qti t cs r) (fun e=>some ((e,()),())) (some ((true,()),())) rfl (fun i hr _ ih=> ?_) (fun _ ih=> ?_) (by omega)).trans ?_
   ·have hi:i<cs.length:=by omega
    have hk:=hc cs[i] (List.getElem_mem hi)
    simp only [←qn,qbE hr,qal hi,qal hr,cond_true,q8 _ hi,q8 _ hr,qaA (show i<4611686018427387904 by omega),Bool.or_true,Bool.and_self,show inB cs[i] (qt t.2.1)=true from by rw [qfR,qn]; exact decide_eq_true hk,qbg]
    simp only [qti,qaf _ hi,qaf _ hr,qto]
    simp only [zC]
    generalize (r[i]).1=a
    generalize (qk t.2.1 cs[i] (([]:List UInt8),(0,(false,())))).2.1=b
    generalize (qk t.2.1 cs[i] (([]:List UInt8),(0,(false,())))).2.2.1=c
    by_cases q1:a=b <;> by_cases q2:a=0 <;> cases c <;> simp_all
   ·simp only
    rw [qB (by rw [qbB]; simp)]
   ·cases hf:qY (qti t cs r) r.length with
    |none=>rfl
    |some e=>
     obtain ⟨i,_,k2,_⟩:=qaQ hf
     unfold qti at k2
     split at k2
     ·cases k2
     ·injection k2 with k2
      subst k2
      rfl
  ·rw [qP (by simp [he]),decide_eq_false he]
   simp
 ·rw [qP (by simp; omega),decide_eq_false hl]
  simp
def qq2 (t:qx) (r:qbU) (i:Nat):Option Int:=
 if (r.getD i zV).1=0∧(t.2.1.getD i zC).2.2.1=false then some 8 else if (r.getD i zV).1≠0∧(r.getD i zV).1≠(t.2.1.getD i zC).2.1 then some 7 else none
def qfZ (t:qx) (r:qbU):Int:=if qeP r≠0 then qeP r else if r.length≠t.2.1.length then 7 else match qY (qq2 t r) r.length with
 |some e=>e
 |none=>0
theorem qhF (N:Nat) (t:qx) (r:qbU) (h1:t.2.1.length<N) (hN:20<N) (hB:N≤1099511627776):qbT N (t,(r,()))=some ((qfZ t r,()),()):=by
 simp only [qbT,qH,qlA N r hN,qg,qj,cond_true,qaN,qn,qfZ]
 by_cases he:qeP r=0
 ·rw [if_neg (fun q=>q he),qB (by simp [he])]
  by_cases hl:r.length=t.2.1.length
  ·rw [if_neg (fun q=>q hl),qB (by simp [hl])]
   refine (qaM (S:=Int×Unit) (fun i=>((i:Int),())) r.length (qq2 t r) (fun e=>some ((e,()),())) (some ((0,()),())) rfl (fun i hr _ ih=> ?_) (fun _ ih=> ?_) (by omega)).trans ?_
   ·have hi:i<t.2.1.length:=by omega
    simp only [←qn,qbE hi,qal hi,qal hr,cond_true,q8 _ hi,q8 _ hr,qaA (show i<4611686018427387904 by omega),Bool.or_true,Bool.and_self,qbg]
    simp only [qq2,qaf _ hi,qaf _ hr]
    generalize (r[i]).1=a
    generalize (t.2.1[i]).2.1=b
    generalize (t.2.1[i]).2.2.1=c
    by_cases q1:a=b <;> by_cases q2:a=0 <;> cases c <;> simp_all
   ·simp only
    rw [qB (by rw [qbB]; simp [hl])]
   ·cases qY (qq2 t r) r.length <;> rfl
  ·rw [if_pos hl,qP (by simp; omega)]
 ·rw [if_pos he,qP (by simp [he])]
theorem qkB (N:Nat) (t:qx) (r:qbU) (h1:t.2.1.length<N) (hN:20<N) (hB:N≤1099511627776):qaz N (t,(r,()))=some ((qfZ t r,()),()):=by
 simp only [qaz,qH,qid N r hN,qg,qj,cond_true,qaN,qn,qfZ]
 by_cases he:qeP r=0
 ·rw [if_neg (fun q=>q he),qB (by simp [he])]
  by_cases hl:r.length=t.2.1.length
  ·rw [if_neg (fun q=>q hl),qB (by simp [hl])]
   refine (qaM (S:=Int×Unit) (fun i=>((i:Int),())) r.length (qq2 t r) (fun e=>some ((e,()),())) (some ((0,()),())) rfl (fun i hr _ ih=> ?_) (fun _ ih=> ?_) (by omega)).trans ?_
   ·have hi:i<t.2.1.length:=by omega
    simp only [←qn,qbE hr,qal hi,qal hr,cond_true,q8 _ hi,q8 _ hr,qaA (show i<4611686018427387904 by omega),Bool.or_true,Bool.and_self,qbg]
    simp only [qq2,qaf _ hi,qaf _ hr]
    generalize (r[i]).1=a
    generalize (t.2.1[i]).2.1=b
    generalize (t.2.1[i]).2.2.1=c
    by_cases q1:a=b <;> by_cases q2:a=0 <;> cases c <;> simp_all
   ·simp only
    rw [qB (by rw [qbB]; simp)]
   ·cases qY (qq2 t r) r.length <;> rfl
  ·rw [if_pos hl,qP (by simp; omega)]
 ·rw [if_pos he,qP (by simp [he])]
def qmf (t:qx) (ks:List qbU) (i:Nat):Option Int:=
 if qmL t t.2.2.1 (ks.getD i [])=false then some 3 else if 0<i∧¬qac (ks.getD (i - 1) []) (ks.getD i [])<0 then some 6 else none
def qr6 (t:qx) (ks:List qbU):Int:=match qY (qmf t ks) ks.length with
 |some e=>e
 |none=>0
structure Sm (N:Nat) (t:qx):Prop where
 n:N≤1099511627776
 big:2000000<N
 cols:t.2.1.length≤1048576
 pk:t.2.2.1.length≤1048576
def SmR (rs:List qbU):Prop:=rs.length≤1048576∧∀r∈rs,r.length≤1048576
theorem qnR (N:Nat) (t:qx) (ks:List qbU) (h:Sm N t) (hc:InR t.2.1.length t.2.2.1) (hk:SmR ks):qbx N (t,(ks,()))=some ((qr6 t ks,()),()):=by
 have hn:=h.n
 have hb:=h.big
 have hp:=h.pk
 have hkl:=hk.1
 simp only [qbx,qH,qr6]
 refine (qaM (S:=Int×Unit) (fun i=>((i:Int),())) ks.length (qmf t ks) (fun e=>some ((e,()),())) (some ((0,()),())) rfl (fun i hi _ ih=> ?_) (fun _ ih=> ?_) (by omega)).trans ?_
 ·simp only [qbE hi,qal hi,cond_true,q8 _ hi,qaA (show i<4611686018427387904 by omega),qm6 N t _ _ hc (by omega) (by omega) hn,qg,qj]
  simp only [qmf,qaf _ hi]
  by_cases hm:qmL t t.2.2.1 ks[i]=true
  ·rw [qB (by simp [hm]),if_neg (by simp [hm])]
   cases i with
   |zero=>simp [qbB]
   |succ i=>
    have hi':i<ks.length:=by omega
    have s1:qG .i64 ((i+1:Nat):Int) 1=(i:Int):=by rw [qao (by omega) (by omega)]; omega
    have hl:(ks[i]).length≤1048576:=hk.2 _ (List.getElem_mem hi')
    simp only [s1,qal hi',q8 _ hi',qcM N _ _ (by omega:(ks[i]).length<N) hn,qg,qj,Bool.or_true,Bool.and_self,cond_true,Nat.add_sub_cancel,qaf _ hi',qbB,qd4]
    by_cases q:qac ks[i] ks[i+1]<0
    ·rw [if_neg (fun e=>e.2 q),qB (by simp; omega)]
    ·rw [if_pos ⟨by omega,q⟩,qP (by simp; omega)]
  ·rw [qP (by simp [hm]),if_pos (by simpa using hm)]
 ·simp only
  rw [qB (qbv (Nat.lt_irrefl _))]
 ·cases qY (qmf t ks) ks.length <;> rfl
end
end Go.Proofs.YtghccmfcndnljaaGreat
namespace Go.Proofs.YtghccmfcndnljaaGreat
open Go.Vi
noncomputable section
abbrev qfz:Type:=qc
abbrev qlM:Type:=qL
abbrev zE:qfz:=(([]:List qa),(([]:List (List qa)),()))
theorem qpS {t:qx} {ks:List qbU} {i:Nat} {e:Int} (h:qmf t ks i=some e):e=3∨e=6:=by
 simp only [qmf] at h
 split at h
 ·injection h with h; omega
 ·split at h
  ·injection h with h; omega
  ·cases h
def qpy (t:qx) (cs:List Int) (es:List qfz) (i:Nat):Option Int:=
 if qmL t cs (es.getD i zE).1=false∨(es.getD i zE).2.1.length=0 then some 3
 else if 0<i∧¬qac (es.getD (i - 1) zE).1 (es.getD i zE).1<0 then some 6
 else qY (qmf t (es.getD i zE).2.1) (es.getD i zE).2.1.length
def qeI (es:List qfz):List qbU:=es.flatMap fun e=>e.2.1
open Classical in
def qut (x:qlM):Int:=if qjt x.1 x.2.1≠0 then qjt x.1 x.2.1 else match qY (qpy x.1 x.2.1 x.2.2.1) x.2.2.1.length with
 |some e=>e
 |none=>if (qeI x.2.2.1).Nodup then 0 else 9
structure SmI (N:Nat) (x:qlM):Prop extends Sm N x.1 where
 cs:x.2.1.length≤1048576
 es:x.2.2.1.length≤1048576
 vals:∀e∈x.2.2.1,e.1.length≤1048576
 keys:(qeI x.2.2.1).length≤1048576
 krow:∀k∈qeI x.2.2.1,k.length≤1048576
theorem qsE: {l:List Nat} → {a:Nat} →a∈l→a≤l.sum
 |b::l,a,h=>by
  rcases List.mem_cons.1 h with rfl|h
  ·simp
  ·have:=qsE h; simp only [List.sum_cons]; omega
theorem SmI.smr {N:Nat} {x:qlM} (h:SmI N x) {e:qfz} (he:e∈x.2.2.1):SmR e.2.1:=by
 refine ⟨?_,fun r hr=>h.krow r (List.mem_flatMap.2 ⟨e,he,hr⟩)⟩
 have:e.2.1.length≤(qeI x.2.2.1).length:=by
  unfold qeI
  rw [List.length_flatMap]
  exact qsE (List.mem_map_of_mem (f:=fun e:qfz=>e.2.1.length) he)
 have:=h.keys
 omega
theorem qhv {es:List qfz} {i:Nat} (h:i<es.length):qeI (es.take (i+1))=qeI (es.take i)++(es[i]).2.1:=by
 rw [qcn h,qeI,List.flatMap_append]; simp [qeI]
theorem qhG (es:List qfz) (i:Nat):(qeI (es.take i)).length≤(qeI es).length:=by
 conv=>rhs; rw [←List.take_append_drop i es,qeI,List.flatMap_append,List.length_append]
 exact Nat.le_add_right _ _
theorem lenOk (N:Nat):qrn (qbq N):=fun k hk=>by
 obtain ⟨e,h1,h2⟩:=qrS k hk
 refine ⟨e,?_,h2⟩
 have h1':qc9 N ((k:Int),())=some (((e:Int),()),()):=h1
 simp only [qbq,h1',qg,qj,cond_true]
abbrev phiR (N:Nat):(qbU×(qbU×Unit))→Option (Int×Unit):=fun x4=>(qgy (fun y5:((Int×Unit)×Unit)=>(y5.1.1,())) (qD N (x4.1,(x4.2.1,()))))
theorem qqx (a:qbU):¬qac a a<0:=by rw [(qb9 a a).2 rfl]; omega
theorem qu9 {a b:qbU} (h1:¬qac a b<0) (h2:¬qac b a<0):a=b:=(qb9 a b).1 (by rw [qeW a b] at h2; omega)
theorem cmpR (N:Nat) (hB:N≤1099511627776):Cmp (fun r:qbU=>r.length<N) (phiR N) (fun a b=>¬qac b a<0) where
 ans a b ha hb:=by
  refine ⟨qac a b,?_,by simp⟩
  simp only [phiR,qcM N a b ha hB,qdg,Option.map_some]
 tot a b _ _:=by
  by_cases h:qac b a<0
  ·right; intro h2; exact qqx _ (qd5 _ _ _ h h2)
  ·exact .inl h
 trans a b c _ _ _ h1 h2 h3:=by
  by_cases e:qac b a<0
  ·exact h1 e
  ·by_cases e2:qac a b<0
   ·exact h2 (qd5 _ _ _ h3 e2)
   ·rw [qu9 e2 e] at h3; exact h2 h3
theorem qtW (N:Nat) (xs:List qbU) (hB:N≤1099511627776) (hN:xs.length+10<N) (hx:∀r∈xs,r.length<N):∃K,qa9 N (xs,(phiR N,()))=some ((),(K,()))∧K.Perm xs∧∀i j (hi:i<K.length) (hj:j<K.length),i≤j→¬qac K[j] K[i]<0:=by
 obtain ⟨out,o1,o2,o3⟩:=qrW (n:=xs.length) ([]:qbU) (cmpR N hB) (lenOk N) (by omega) hN (xs:=xs) ⟨rfl,hx⟩
 refine ⟨out,o1,o2.perm,fun i j hi hj hij=> ?_⟩
 have hl:=o2.perm.length_eq
 have h:=o3 i j (by omega) (by omega) (by omega)
 rw [q8 _ hi,q8 _ hj] at h
 exact h
def qvc (K:List qbU) (i:Nat):Option Int:=if 0<i∧qac (K.getD (i - 1) []) (K.getD i [])=0 then some 9 else none
open Classical in
theorem qro {K:List qbU} (hs:∀i j (hi:i<K.length) (hj:j<K.length),i≤j→¬qac K[j] K[i]<0):(match qY (qvc K) K.length with
  |some e=>e
  |none=>0)=if K.Nodup then 0 else 9:=by
 cases hf:qY (qvc K) K.length with
 |some e=>
  obtain ⟨i,h1,h2,_⟩:=qaQ hf
  unfold qvc at h2
  split at h2
  ·rename_i hc
   injection h2 with h2
   subst h2
   rw [if_neg]
   intro hn
   rw [qaf _ h1,qaf _ (show i - 1<K.length by omega)] at hc
   have e:=(qb9 _ _).1 hc.2
   have:=(List.pairwise_iff_getElem.1 (List.nodup_iff_pairwise_ne.1 hn)) (i - 1) i (by omega) h1 (by omega)
   exact this e
  ·cases h2
 |none=>
  rw [if_pos]
  have key:K.Pairwise (fun a b=>qac a b<0):=qgQ _ (fun a b c=>qd5 a b c) K fun i hi=>by
   have:=qa1 hf (i+1) hi
   unfold qvc at this
   split at this
   ·cases this
   ·rename_i hn
    simp only [Nat.succ_pos,true_and,Nat.add_sub_cancel] at hn
    rw [qaf _ hi,qaf _ (show i<K.length by omega)] at hn
    have h2:=hs i (i+1) (by omega) hi (by omega)
    rw [qeW] at h2
    omega
  exact List.nodup_iff_pairwise_ne.2 (key.imp fun h e=>by rw [e] at h; exact qqx _ h)
theorem qnP (N:Nat) (x:qlM) (h:SmI N x):qcq N (x,())=some ((qut x,()),()):=by
 have hn:=h.n
 have hb:=h.big
 have hp:=h.pk
 have hes:=h.es
 have hcs:=h.cs
 have hkk:=h.keys
 simp only [qcq,qH,qgC N x.1 x.2.1 (by omega) (by omega) hn,qg,qj,cond_true,qaN,qut]
 by_cases ht':¬qjt x.1 x.2.1=0
 ·rw [if_pos ht',qP (by simp [ht'])]
 have ht:=Classical.not_not.1 ht'
 rw [if_neg (fun q=>q ht),qB (by simp [ht])]
 obtain ⟨_,hr1,hr2,_⟩:=qgn ht
 refine (qaM (S:=List qbU×(Int×Unit)) (fun i=>(qeI (x.2.2.1.take i),((i:Int),()))) x.2.2.1.length (qpy x.1 x.2.1 x.2.2.1) (fun e=>some ((e,()),())) (some (((match qY (qpy x.1 x.2.1 x.2.2.1) x.2.2.1.length with
  |some e=>e
  |none=>open Classical in if (qeI x.2.2.1).Nodup then 0 else 9),()),())) rfl (fun i hi _ ih=> ?_) (fun hf ih=> ?_) (by omega)).trans ?_
 ·have hsr:=h.smr (List.getElem_mem hi)
  have hroom:qcX (qt (qeI (x.2.2.1.take i))) (qt (x.2.2.1[i]).2.1) 24=true:=qdC (by
   have:=qhG x.2.2.1 (i+1)
   rw [qhv hi,List.length_append] at this
   omega)
  simp only [qbE hi,qal hi,cond_true,q8 _ hi,qaA (show i<4611686018427387904 by omega),qm6 N x.1 x.2.1 _ hr2 (by omega) (by omega) hn,qnR N x.1 _ h.toSm hr1 hsr,qg,qj,hroom,qhv hi,qbw]
  simp only [qpy,qaf _ hi,qbg,qn]
  by_cases hm:qmL x.1 x.2.1 (x.2.2.1[i]).1=false∨(x.2.2.1[i]).2.1.length=0
  ·rw [if_pos hm,qP (by
    rcases hm with hm|hm
    ·simp [hm]
    ·simp [hm])]
  ·rw [if_neg hm,qB (by
    simp only [not_or,Bool.not_eq_false] at hm
    simp only [hm.1,Bool.not_true,Bool.false_or]
    exact decide_eq_false (by omega))]
   have fin:(bif !decide (qr6 x.1 (x.2.2.1[i]).2.1=0) then some ((qr6 x.1 (x.2.2.1[i]).2.1,()),()) else ih (qeI (x.2.2.1.take i)++(x.2.2.1[i]).2.1,(((i+1:Nat):Int),())))=match qY (qmf x.1 (x.2.2.1[i]).2.1) (x.2.2.1[i]).2.1.length with
    |some e=>some ((e,()),())
    |none=>ih (qeI (x.2.2.1.take i)++(x.2.2.1[i]).2.1,(((i+1:Nat):Int),())):=by
    unfold qr6
    cases hf:qY (qmf x.1 (x.2.2.1[i]).2.1) (x.2.2.1[i]).2.1.length with
    |none=>simp
    |some e=>
     obtain ⟨j,_,k2,_⟩:=qaQ hf
     have:=qpS k2
     rw [qP (by simp; omega)]
   cases i with
   |zero=>
    simp only [Nat.lt_irrefl,false_and,if_false]
    simp only [qbB,Int.ofNat_zero,Int.lt_irrefl,decide_false,Bool.not_false,Bool.true_or,Bool.and_self,cond_true,Bool.false_and,cond_false]
    refine fin.trans ?_
    cases qY (qmf x.1 (x.2.2.1[0]).2.1) (x.2.2.1[0]).2.1.length <;> rfl
   |succ i=>
    have hi':i<x.2.2.1.length:=by omega
    have s1:qG .i64 ((i+1:Nat):Int) 1=(i:Int):=by rw [qao (by omega) (by omega)]; omega
    have hl:(x.2.2.1[i]).1.length≤1048576:=h.vals _ (List.getElem_mem hi')
    have b1:inB (i:Int) (x.2.2.1.length:Int)=true:=qpI hi'
    simp only [s1,b1,q8 _ hi',qcM N _ _ (by omega:(x.2.2.1[i]).1.length<N) hn,qg,qj,Bool.or_true,Bool.and_self,cond_true,Nat.add_sub_cancel,qaf _ hi',qbB,qd4]
    by_cases q:qac (x.2.2.1[i]).1 (x.2.2.1[i+1]).1<0
    ·rw [if_neg (fun e=>e.2 q),qB (by simp; omega)]
     refine fin.trans ?_
     cases qY (qmf x.1 (x.2.2.1[i+1]).2.1) (x.2.2.1[i+1]).2.1.length <;> rfl
    ·rw [if_pos ⟨by omega,q⟩,qP (by simp; omega)]
 ·simp only
  rw [qB (qbv (Nat.lt_irrefl _)),List.take_length,hf]
  obtain ⟨K,k1,k2,k3⟩:=qtW N (qeI x.2.2.1) hn (by omega) (fun r hr=>by have:=h.krow r hr; omega)
  have hKl:=k2.length_eq
  have hKr:∀r∈K,r.length<N:=fun r hr=>by have:=h.krow r (k2.mem_iff.1 hr); omega
  have k1':qa9 N (qeI x.2.2.1,((fun x3=>(qgy (fun y4=>(y4.1.1,())) (qD N (x3.1,(x3.2.1,()))))),()))=some ((),(K,())):=k1
  rw [k1']
  simp only [qg,qj,cond_true]
  have hnd:(if K.Nodup then (0:Int) else 9)=(open Classical in if (qeI x.2.2.1).Nodup then (0:Int) else 9):=by
   by_cases q:K.Nodup
   ·rw [if_pos q,if_pos (k2.nodup_iff.1 q)]
   ·rw [if_neg q,if_neg (fun e=>q (k2.nodup_iff.2 e))]
  rw [←hnd]
  refine (qaM (S:=Int×Unit) (fun i=>((i:Int),())) K.length (qvc K) (fun e=>some ((e,()),())) (some ((0,()),())) rfl (fun i hi _ ih=> ?_) (fun _ ih=> ?_) (by omega)).trans ?_
  ·simp only [qbE hi,qal hi,cond_true,q8 _ hi,qaA (show i<4611686018427387904 by omega)]
   simp only [qvc,qaf _ hi]
   cases i with
   |zero=>simp [qbB]
   |succ i=>
    have hi':i<K.length:=by omega
    have s1:qG .i64 ((i+1:Nat):Int) 1=(i:Int):=by rw [qao (by omega) (by omega)]; omega
    simp only [s1,qal hi',q8 _ hi',qcM N _ _ (hKr _ (List.getElem_mem hi')) hn,qg,qj,Bool.or_true,Bool.and_self,cond_true,Nat.add_sub_cancel,qaf _ hi',qbB,qbg]
    by_cases q:qac K[i] K[i+1]=0
    ·rw [if_pos ⟨by omega,q⟩,qP (by simp [q] <;> omega)]
    ·rw [if_neg (fun e=>q e.2),qB (by simp [q])]
  ·simp only
   rw [qB (qbv (Nat.lt_irrefl _))]
  ·have:=qro k3
   cases hfd:qY (qvc K) K.length with
   |none=>
    rw [hfd] at this
    simp only at this
    by_cases q:K.Nodup
    ·rw [if_pos q]
    ·rw [if_neg q] at this; cases this
   |some e=>
    rw [hfd] at this
    simp only at this
    by_cases q:K.Nodup
    ·rw [if_pos q] at this; rw [if_pos q,this]
    ·rw [if_neg q] at this; rw [if_neg q,this]
 ·cases qY (qpy x.1 x.2.1 x.2.2.1) x.2.2.1.length <;> rfl
end
end Go.Proofs.YtghccmfcndnljaaGreat
namespace Go.Proofs.YtghccmfcndnljaaGreat
open Go.Vi
noncomputable section
open Classical in
def qu6 (K:List qbU) (i:Nat):Option Int:=if K.getD i []∈K.take i then some 9 else none
open Classical in
theorem qsK (K:List qbU):(match qY (qu6 K) K.length with
  |some e=>e
  |none=>0)=if K.Nodup then 0 else 9:=by
 cases hf:qY (qu6 K) K.length with
 |some e=>
  obtain ⟨i,h1,h2,_⟩:=qaQ hf
  unfold qu6 at h2
  split at h2
  ·rename_i hc
   injection h2 with h2
   subst h2
   rw [if_neg]
   intro hn
   rw [qaf _ h1] at hc
   obtain ⟨j,hj,he⟩:=List.getElem_of_mem hc
   rw [List.length_take] at hj
   rw [List.getElem_take] at he
   have:=(List.pairwise_iff_getElem.1 (List.nodup_iff_pairwise_ne.1 hn)) j i (by omega) h1 (by omega)
   exact this he
  ·cases h2
 |none=>
  rw [if_pos]
  refine List.nodup_iff_pairwise_ne.2 (List.pairwise_iff_getElem.2 fun i j hi hj hij e=> ?_)
  have:=qa1 hf j hj
  unfold qu6 at this
  split at this
  ·cases this
  ·rename_i hn
   rw [qaf _ hj] at hn
   refine hn (List.mem_of_getElem? (i:=i) ?_)
   rw [List.getElem?_take,if_pos hij,List.getElem?_eq_getElem hi,e]
theorem qui (N:Nat) (t:qx) (ks:List qbU) (h:Sm N t) (hc:InR t.2.1.length t.2.2.1) (hk:SmR ks) (fin:Option ((Int×Unit)×Unit)):
  qab (S:=(Int×Unit)) (R:=((Int×Unit)×Unit)) N (fun ih5=>(fun p6=>(bif (ltI p6.1 (qt ks)) then (bif (inB p6.1 (qt ks)) then (bif (qw (qar N (t,(t.2.2.1,((qk ks p6.1 ([]:List qa)),()))))) then (bif (!(qr (qar N (t,(t.2.2.1,((qk ks p6.1 ([]:List qa)),())))) ((false,()),())).1.1) then (some ((3,()),())) else (bif (((!(ltI 0 p6.1))||(inB (qG .i64 p6.1 1) (qt ks)))&&((!(ltI 0 p6.1))||(qw (qZ N ((qk ks p6.1 ([]:List qa)),((qk ks (qG .i64 p6.1 1) ([]:List qa)),())))))) then (bif ((ltI 0 p6.1)&&(leI (qr (qZ N ((qk ks p6.1 ([]:List qa)),((qk ks (qG .i64 p6.1 1) ([]:List qa)),()))) ((0,()),())).1.1 0)) then (some ((6,()),())) else (ih5 ((qK .i64 p6.1 1),()))) else none)) else none) else none) else fin))) (0,())=match qY (qmf t ks) ks.length with
   |some e=>some ((e,()),())
   |none=>fin:=by
 have hn:=h.n
 have hb:=h.big
 have hp:=h.pk
 have hkl:=hk.1
 refine (qaM (S:=Int×Unit) (fun i=>((i:Int),())) ks.length (qmf t ks) (fun e=>some ((e,()),())) fin rfl (fun i hi _ ih=> ?_) (fun _ ih=> ?_) (by omega)).trans ?_
 ·simp only [qbE hi,qal hi,cond_true,q8 _ hi,qaA (show i<4611686018427387904 by omega),qhi N t _ _ hc (by omega) (by omega) hn,qg,qj]
  simp only [qmf,qaf _ hi]
  by_cases hm:qmL t t.2.2.1 ks[i]=true
  ·rw [qB (by simp [hm]),if_neg (by simp [hm])]
   cases i with
   |zero=>simp [qbB]
   |succ i=>
    have hi':i<ks.length:=by omega
    have s1:qG .i64 ((i+1:Nat):Int) 1=(i:Int):=by rw [qao (by omega) (by omega)]; omega
    have hl:(ks[i+1]).length≤1048576:=hk.2 _ (List.getElem_mem hi)
    simp only [s1,qal hi',q8 _ hi',qd8 N _ _ (by omega:(ks[i+1]).length<N) hn,qg,qj,Bool.or_true,Bool.and_self,cond_true,Nat.add_sub_cancel,qaf _ hi',qbB,qd4]
    have hsw:=qeW ks[i] ks[i+1]
    by_cases q:qac ks[i] ks[i+1]<0
    ·rw [if_neg (fun e=>e.2 q),qB (by simp; omega)]
    ·rw [if_pos ⟨by omega,q⟩,qP (by simp; omega)]
  ·rw [qP (by simp [hm]),if_pos (by simpa using hm)]
 ·simp only
  rw [qB (qbv (Nat.lt_irrefl _))]
 ·cases qY (qmf t ks) ks.length <;> rfl
open Classical in
theorem refDup (N:Nat) (K:List qbU) (hn:N≤1099511627776) (hl:K.length<N) (hr:∀r∈K,r.length<N):
  qab (S:=(Int×Unit)) (R:=((Int×Unit)×Unit)) N (fun ih3=>(fun p4=>(bif (ltI p4.1 (qt K)) then (bif (inB p4.1 (qt K)) then (bif (inS 0 p4.1 (qt K)) then (qab (S:=(Int×Unit)) (R:=((Int×Unit)×Unit)) N (fun ih5=>(fun p6=>(bif (ltI p6.1 (qt (qbe K 0 p4.1))) then (bif (inB p6.1 (qt (qbe K 0 p4.1))) then (bif (qw (qT N ((qk K p4.1 ([]:List qa)),((qk (qbe K 0 p4.1) p6.1 ([]:List qa)),())))) then (bif (qr (qT N ((qk K p4.1 ([]:List qa)),((qk (qbe K 0 p4.1) p6.1 ([]:List qa)),()))) ((false,()),())).1.1 then (some ((9,()),())) else (ih5 ((qK .i64 p6.1 1),()))) else none) else none) else (ih3 ((qK .i64 p4.1 1),()))))) (0,())) else none) else none) else (some ((0,()),()))))) (0,())=some (((if K.Nodup then (0:Int) else 9),()),()):=by
 refine (qaM (S:=Int×Unit) (fun i=>((i:Int),())) K.length (qu6 K) (fun e=>some ((e,()),())) (some ((0,()),())) rfl (fun i hi _ ih=> ?_) (fun _ ih=> ?_) hl).trans ?_
 ·have hs:inS 0 (i:Int) (qt K)=true:=by rw [qsH,qn]; simp; omega
  simp only [qbE hi,qal hi,cond_true,q8 _ hi,qqm,hs,qfE N K[i] _ (hr _ (List.getElem_mem hi)) (by have:=hr _ (List.getElem_mem hi); omega),qg,qj,qaA (show i<4611686018427387904 by omega)]
  have hlt:(K.take i).length=i:=by rw [List.length_take]; omega
  refine (qaM (S:=Int×Unit) (fun j=>((j:Int),())) i (fun j=>if K[i]=K.getD j [] then some (9:Int) else none) (fun e=>some ((e,()),())) (ih (((i+1:Nat):Int),())) rfl (fun j hj _ jh=> ?_) (fun _ jh=> ?_) (by omega)).trans ?_
  ·have hj':j<(K.take i).length:=by omega
   simp only [qbE hj',qal hj',cond_true,q8 _ hj',List.getElem_take,qaf _ (show j<K.length by omega),qaA (show j<4611686018427387904 by omega)]
   by_cases q:K[i]=K[j]
   ·rw [if_pos q,qP (by simp [q])]
   ·rw [if_neg q,qB (by simp [q])]
  ·simp only
   rw [qB (by rw [qbB,qn,hlt]; simp)]
  ·unfold qu6
   rw [qaf _ hi]
   by_cases q:K[i]∈K.take i
   ·rw [if_pos q]
    cases hf:qY (fun j=>if K[i]=K.getD j [] then some (9:Int) else none) i with
    |some e=>
     obtain ⟨j,_,k2,_⟩:=qaQ hf
     split at k2
     ·injection k2 with k2; subst k2; rfl
     ·cases k2
    |none=>
     obtain ⟨j,hj,he⟩:=List.getElem_of_mem q
     have:=qa1 hf j (by omega)
     rw [List.getElem_take] at he
     rw [qaf _ (show j<K.length by omega),if_pos he.symm] at this
     cases this
   ·rw [if_neg q]
    cases hf:qY (fun j=>if K[i]=K.getD j [] then some (9:Int) else none) i with
    |none=>rfl
    |some e=>
     obtain ⟨j,hj,k2,_⟩:=qaQ hf
     split at k2
     ·rename_i he
      rw [qaf _ (show j<K.length by omega)] at he
      exact absurd (List.mem_of_getElem? (i:=j) (by rw [List.getElem?_take,if_pos hj,List.getElem?_eq_getElem (show j<K.length by omega),he])) q
     ·cases k2
 ·simp only
  rw [qB (qbv (Nat.lt_irrefl _))]
 ·have:=qsK K
  cases hfd:qY (qu6 K) K.length with
  |none=>
   rw [hfd] at this
   simp only at this
   rw [←this]
  |some e=>
   rw [hfd] at this
   simp only at this
   rw [←this]
theorem qn0 (N:Nat) (x:qlM) (h:SmI N x):qaI N (x,())=some ((qut x,()),()):=by
 have hn:=h.n
 have hb:=h.big
 have hp:=h.pk
 have hes:=h.es
 have hcs:=h.cs
 have hkk:=h.keys
 simp only [qaI,qH,qhh N x.1 x.2.1 (by omega) (by omega) hn,qg,qj,cond_true,qaN,qut]
 by_cases ht':¬qjt x.1 x.2.1=0
 ·rw [if_pos ht',qP (by simp [ht'])]
 have ht:=Classical.not_not.1 ht'
 rw [if_neg (fun q=>q ht),qB (by simp [ht])]
 obtain ⟨_,hr1,hr2,_⟩:=qgn ht
 refine (qaM (S:=List qbU×(Int×Unit)) (fun i=>(qeI (x.2.2.1.take i),((i:Int),()))) x.2.2.1.length (qpy x.1 x.2.1 x.2.2.1) (fun e=>some ((e,()),())) (some (((match qY (qpy x.1 x.2.1 x.2.2.1) x.2.2.1.length with
  |some e=>e
  |none=>open Classical in if (qeI x.2.2.1).Nodup then 0 else 9),()),())) rfl (fun i hi _ ih=> ?_) (fun hf ih=> ?_) (by omega)).trans ?_
 ·have hsr:=h.smr (List.getElem_mem hi)
  have hroom:qcX (qt (qeI (x.2.2.1.take i))) (qt (x.2.2.1[i]).2.1) 24=true:=qdC (by
   have:=qhG x.2.2.1 (i+1)
   rw [qhv hi,List.length_append] at this
   omega)
  simp only [qbE hi,qal hi,cond_true,q8 _ hi,qaA (show i<4611686018427387904 by omega),qhi N x.1 x.2.1 _ hr2 (by omega) (by omega) hn,qg,qj,hroom,Bool.or_true,qbw,qui N x.1 _ h.toSm hr1 hsr]
  rw [←qhv hi]
  simp only [qpy,qaf _ hi,qbg]
  by_cases hm:qmL x.1 x.2.1 (x.2.2.1[i]).1=false∨(x.2.2.1[i]).2.1.length=0
  ·rw [if_pos hm,qP (by
    rw [qn]
    rcases hm with hm|hm
    ·simp [hm]
    ·simp [hm])]
  ·rw [if_neg hm,qB (by
    rw [qn]
    simp only [not_or,Bool.not_eq_false] at hm
    simp only [hm.1,Bool.not_true,Bool.or_false]
    exact decide_eq_false (by omega))]
   cases i with
   |zero=>
    simp only [Nat.lt_irrefl,false_and,if_false]
    simp only [qbB,Int.ofNat_zero,Int.lt_irrefl,decide_false,Bool.not_false,Bool.true_or,Bool.and_self,cond_true,Bool.false_and,cond_false]
    cases qY (qmf x.1 (x.2.2.1[0]).2.1) (x.2.2.1[0]).2.1.length <;> rfl
   |succ i=>
    have hi':i<x.2.2.1.length:=by omega
    have s1:qG .i64 ((i+1:Nat):Int) 1=(i:Int):=by rw [qao (by omega) (by omega)]; omega
    have hl:(x.2.2.1[i+1]).1.length≤1048576:=h.vals _ (List.getElem_mem hi)
    simp only [s1,qal hi',q8 _ hi',qd8 N _ _ (by omega:(x.2.2.1[i+1]).1.length<N) hn,qg,qj,Bool.or_true,Bool.and_self,cond_true,Nat.add_sub_cancel,qaf _ hi',qbB,qd4]
    have hsw:=qeW (x.2.2.1[i]).1 (x.2.2.1[i+1]).1
    by_cases q:qac (x.2.2.1[i]).1 (x.2.2.1[i+1]).1<0
    ·rw [if_neg (fun e=>e.2 q),qB (by simp; omega)]
     cases qY (qmf x.1 (x.2.2.1[i+1]).2.1) (x.2.2.1[i+1]).2.1.length <;> rfl
    ·rw [if_pos ⟨by omega,q⟩,qP (by simp; omega)]
 ·simp only
  rw [qB (qbv (Nat.lt_irrefl _)),List.take_length,hf]
  exact refDup N (qeI x.2.2.1) hn (by omega) (fun r hr=>by have:=h.krow r hr; omega)
 ·cases qY (qpy x.1 x.2.1 x.2.2.1) x.2.2.1.length <;> rfl
end
end Go.Proofs.YtghccmfcndnljaaGreat
namespace Go.Proofs.YtghccmfcndnljaaGreat
open Go.Vi
noncomputable section
theorem qr8 (N:Nat) (xs:qbU) (h:xs.length≤1099511627776):qaa N (xs,())=some ((xs,()),()):=by
 simp only [qaa]
 have hr:qcX (qt ([]:List qa)) (qt xs) 32=true:=qdC (by simp; omega)
 rw [hr]
 simp only [cond_true,qbw,List.nil_append]
 cases xs with
 |nil=>rw [qP (by rw [qbg,qn]; rfl),qjA,if_pos rfl]
 |cons x r=>rw [qB (by rw [qbg,qn]; simp; omega)]
theorem quJ (N:Nat) (xs:List Int) (h:xs.length≤1099511627776):qbr N (xs,())=some ((xs,()),()):=by
 simp only [qbr]
 have hr:qcX (qt ([]:List Int)) (qt xs) 8=true:=qdC (by simp; omega)
 rw [hr]
 simp only [cond_true,qbw,List.nil_append]
 cases xs with
 |nil=>rw [qP (by rw [qbg,qn]; rfl),qjA,if_pos rfl]
 |cons x r=>rw [qB (by rw [qbg,qn]; simp; omega)]
theorem cloneC (N:Nat) (xs:List qe) (h:xs.length≤1099511627776):qa8 N (xs,())=some ((xs,()),()):=by
 simp only [qa8]
 have hr:qcX (qt ([]:List qe)) (qt xs) 32=true:=qdC (by simp; omega)
 rw [hr]
 simp only [cond_true,qbw,List.nil_append]
 cases xs with
 |nil=>rw [qP (by rw [qbg,qn]; rfl),qjA,if_pos rfl]
 |cons x r=>rw [qB (by rw [qbg,qn]; simp; omega)]
theorem quH (N:Nat) (x:qlM) (h:SmI N x):qf N (x,())=some ((x,()),()):=by
 have hn:=h.n
 have hb:=h.big
 have hp:=h.pk
 have hco:=h.cols
 have hes:=h.es
 have hcs:=h.cs
 have hkk:=h.keys
 have hva:=h.vals
 have hsm:∀e∈x.2.2.1,SmR e.2.1:=fun e he=>h.smr he
 obtain ⟨⟨nm,cols,pk,⟨⟩⟩,cs,es,⟨⟩⟩:=x
 simp only at hp hco hes hcs hkk hva hsm
 simp only [qf,qH,quJ N cs (by omega),quJ N pk (by omega),cloneC N cols (by omega),qg,qj,cond_true,Bool.and_self]
 refine qeE (S:=qlM×(Int×Unit)) (fun i=>(((nm,(cols,(pk,()))),(cs,(es.take i,()))),((i:Int),()))) es.length _ (by simp) (fun i hi ih=> ?_) (fun ih=> ?_) (by omega)
 ·have hl:=hva _ (List.getElem_mem hi)
  have hk:=hsm _ (List.getElem_mem hi)
  have hkl:=hk.1
  simp only [qbE hi,qal hi,cond_true,q8 _ hi,qr8 N (es[i]).1 (by omega),qg,qj]
  refine (qoc (S:=qlM×(qfz×(Int×Unit))) (fun k=>(((nm,(cols,(pk,()))),(cs,(es.take i,()))),(((es[i]).1,((es[i]).2.1.take k,())),((k:Int),())))) (es[i]).2.1.length (ih (((nm,(cols,(pk,()))),(cs,(es.take (i+1),()))),(((i+1:Nat):Int),()))) (by simp) (fun k hkk2 kh=> ?_) (fun kh=> ?_) (by omega))
  ·have hr:=hk.2 _ (List.getElem_mem hkk2)
   have hroom:qcX (qt ((es[i]).2.1.take k)) (qt ([(es[i]).2.1[k]]:List qbU)) 24=true:=qdC (by rw [List.length_take]; simp; omega)
   simp only [qbE hkk2,qal hkk2,cond_true,q8 _ hkk2,qr8 N ((es[i]).2.1[k]) (by omega),qg,qj,hroom,Bool.and_self,qaA (show k<4611686018427387904 by omega),qbw,qcn hkk2]
  ·have hroom:qcX (qt (es.take i)) (qt ([((es[i]).1,((es[i]).2.1,()))]:List qfz)) 48=true:=qdC (by rw [List.length_take]; simp; omega)
   simp only [qbv (Nat.lt_irrefl _),cond_false,List.take_length,hroom,cond_true,qaA (show i<4611686018427387904 by omega),qbw,qcn hi]
 ·simp only [qbv (Nat.lt_irrefl _),cond_false,List.take_length]
def qdz (r:qbU) (cs:List Int):qbU:=cs.map fun k=>qk r k zV
theorem qq0 (N:Nat) (r:qbU) (cs:List Int) (hc:InR r.length cs) (hl:cs.length≤1048576) (hN:2000000<N):qbY N (r,(cs,()))=some ((qdz r cs,()),()):=by
 simp only [qbY]
 refine qeE (S:=qbU×(Int×Unit)) (fun i=>(qdz r (cs.take i),((i:Int),()))) cs.length _ (by simp [qdz]) (fun i hi ih=> ?_) (fun ih=> ?_) (by omega)
 ·have hk:=hc cs[i] (List.getElem_mem hi)
  have hroom:qcX (qt (qdz r (cs.take i))) (qt ([qk r cs[i] zV]:qbU)) 32=true:=qdC (by rw [qdz,List.length_map,List.length_take]; simp; omega)
  have e1:qdz r (cs.take (i+1))=qdz r (cs.take i)++[qk r cs[i] zV]:=by rw [qcn hi,qdz,List.map_append]; rfl
  simp only [qbE hi,qal hi,cond_true,q8 _ hi,show inB cs[i] (qt r)=true from by rw [qfR,qn]; exact decide_eq_true hk,hroom,Bool.and_self,qaA (show i<4611686018427387904 by omega),qbw,e1]
 ·simp only [qbv (Nat.lt_irrefl _),cond_false,List.take_length]
abbrev DIR:Type:=qb
theorem qnO (N:Nat) (t:qx) (r:qbU) (cs:List Int) (hc:InR r.length cs) (hl:cs.length≤1048576) (hp:t.2.2.1.length≤1048576) (hN:2000000<N) (hB:N≤1099511627776):qaj N (t,(cs,(r,())))=some (((qdz r cs,(qiA t.2.2.1 r,())),()),()):=by
 simp only [qaj]
 refine qeE (S:=qbU×(Int×Unit)) (fun i=>(qdz r (cs.take i),((i:Int),()))) cs.length _ (by simp [qdz]) (fun i hi ih=> ?_) (fun ih=> ?_) (by omega)
 ·have hk:=hc cs[i] (List.getElem_mem hi)
  have hroom:qcX (qt (qdz r (cs.take i))) (qt ([qk r cs[i] zV]:qbU)) 32=true:=qdC (by rw [qdz,List.length_map,List.length_take]; simp; omega)
  have e1:qdz r (cs.take (i+1))=qdz r (cs.take i)++[qk r cs[i] zV]:=by rw [qcn hi,qdz,List.map_append]; rfl
  simp only [qbE hi,qal hi,cond_true,q8 _ hi,show inB cs[i] (qt r)=true from by rw [qfR,qn]; exact decide_eq_true hk,hroom,Bool.and_self,qaA (show i<4611686018427387904 by omega),qbw,e1]
 ·simp only [qbv (Nat.lt_irrefl _),cond_false,List.take_length,qun N t r (by omega) hB,qg,qj,cond_true]
def bsF {α β:Type} (d:α) (N:Nat) (x:List α×(β×(((α×(β×Unit))→Option (Int×Unit))×Unit))):Option ((Int×(Bool×Unit))×Unit):=
 (q9 (qt x.1) (fun y0=>(qab (S:=(Int×(Int×Unit))) (R:=((Int×(Bool×Unit))×Unit)) N (fun ih1=>(fun p2=>(bif (ltI p2.1 p2.2.1) then (bif (leI 0 1) then (q9 (qbs .i64 (qgr .u64 (qbs .u64 (qK .i64 p2.1 p2.2.1)) 1)) (fun y3=>(bif ((inB y3 (qt x.1))&&(qw (x.2.2.1 ((qk x.1 y3 d),(x.2.1,()))))) then (ih1 ((bif (ltI (qr (x.2.2.1 ((qk x.1 y3 d),(x.2.1,()))) (0,())).1 0) then (qK .i64 y3 1) else p2.1),((bif (ltI (qr (x.2.2.1 ((qk x.1 y3 d),(x.2.1,()))) (0,())).1 0) then p2.2.1 else y3),()))) else none))) else none) else (bif (((!(ltI p2.1 y0))||(inB p2.1 (qt x.1)))&&((!(ltI p2.1 y0))||(qw (x.2.2.1 ((qk x.1 p2.1 d),(x.2.1,())))))) then (some ((p2.1,(((ltI p2.1 y0)&&(eqI (qr (x.2.2.1 ((qk x.1 p2.1 d),(x.2.1,()))) (0,())).1 0)),())),())) else none)))) (0,(y0,())))))
open Classical in
theorem quI {α β:Type} (d:α) {N:Nat} {xs:List α} {v:β} {φ:(α×(β×Unit))→Option (Int×Unit)} {f:α→Int} (hφ:∀a∈xs,φ (a,(v,()))=some (f a,())) (hm:∀(i j:Nat) (hi:i<xs.length) (hj:j<xs.length),i≤j→0≤f xs[i]→0≤f xs[j]) (hl:xs.length≤1099511627776) (hN:xs.length+1<N):
  ∃k:Nat,k≤xs.length∧(∀(i:Nat) (hi:i<xs.length),i<k→f xs[i]<0)∧(∀(i:Nat) (hi:i<xs.length),k≤i→0≤f xs[i])∧bsF d N (xs,(v,(φ,())))=some (((k:Int),(decide (∃h:k<xs.length,f xs[k]=0),())),()):=by
 have l01:leI 0 1=true:=leT (by omega)
 simp only [bsF,qH,l01,cond_true]
 refine qan (S:=Int×(Int×Unit)) (fun p=>(p.2.1 - p.1).toNat) (fun p=>∃a b:Nat,p.1=(a:Int)∧p.2.1=(b:Int)∧a≤b∧b≤xs.length∧(∀(i:Nat) (hi:i<xs.length),i<a→f xs[i]<0)∧(∀(i:Nat) (hi:i<xs.length),b≤i→0≤f xs[i])) (fun r=>∃k:Nat,k≤xs.length∧(∀(i:Nat) (hi:i<xs.length),i<k→f xs[i]<0)∧(∀(i:Nat) (hi:i<xs.length),k≤i→0≤f xs[i])∧r=some (((k:Int),(decide (∃h:k<xs.length,f xs[k]=0),())),())) ?_ N _ ⟨0,xs.length,rfl,by rw [qn],by omega,by omega,fun i hi h=>by omega,fun i hi h=>by omega⟩ (by rw [qn]; simp; omega)
 rintro ih ⟨_,_,⟨⟩⟩ ⟨a,b,rfl,rfl,hab,hbl,h1,h2⟩ hih
 simp only at hih⊢
 by_cases hc:a<b
 ·have em:=qjv (x:=(a:Int)) (y:=(b:Int)) (by omega) (by omega) (by omega)
  have e:((a:Int)+(b:Int)) / 2=(((a+b) / 2:Nat):Int):=by omega
  rw [e] at em
  generalize hmd:(a+b) / 2=m at em
  have hml:m<xs.length:=by omega
  rw [qP (ltT (by omega)),em,qal hml,q8 _ hml,hφ _ (List.getElem_mem hml)]
  simp only [qg,qj,Bool.and_self,cond_true]
  by_cases hf:f xs[m]<0
  ·rw [ltT hf]
   simp only [cond_true,qaA (show m<4611686018427387904 by omega)]
   refine hih _ ⟨m+1,b,rfl,rfl,by omega,hbl,fun i hi him=> ?_,h2⟩ (by simp only; omega)
   rcases Int.lt_or_le (f xs[i]) 0 with q|q
   ·exact q
   ·have:=hm i m hi hml (by omega) q
    omega
  ·rw [ltF hf]
   simp only [cond_false]
   refine hih _ ⟨a,m,rfl,rfl,by omega,by omega,h1,fun i hi him=>hm m i hml hi him (by omega)⟩ (by simp only; omega)
 ·have:a=b:=by omega
  subst this
  rw [qB (ltF (by omega))]
  refine ⟨a,hbl,h1,h2,?_⟩
  by_cases hal:a<xs.length
  ·rw [qbE hal,qal hal,q8 _ hal,hφ _ (List.getElem_mem hal)]
   simp only [qg,qj,Bool.or_true,Bool.and_self,cond_true,Bool.true_and,qbg,exists_prop_of_true hal]
  ·rw [qbv hal]
   simp only [Bool.not_false,Bool.true_or,Bool.and_self,cond_true,Bool.false_and]
   rw [decide_eq_false (fun ⟨h,_⟩=>hal h)]
end
end Go.Proofs.YtghccmfcndnljaaGreat
namespace Go.Proofs.YtghccmfcndnljaaGreat
open Go.Vi
noncomputable section
abbrev Lt (a b:qbU):Prop:=qac a b<0
structure qoR (x:qlM):Prop where
 tab:qjt x.1 x.2.1=0
 vals:∀e∈x.2.2.1,qmL x.1 x.2.1 e.1=true∧e.2.1≠[]
 keys:∀e∈x.2.2.1,e.2.1.Pairwise Lt∧∀k∈e.2.1,qmL x.1 x.1.2.2.1 k=true
 ord:x.2.2.1.Pairwise fun a b=>Lt a.1 b.1
 nod:(qeI x.2.2.1).Nodup
theorem qhU {E:Type} {g:Nat→Option E} : {n:Nat} →(∀i,i<n→g i=none)→qY g n=none
 |0,_=>rfl
 |n+1,h=>by
  have e:qY g n=none:=qhU fun i hi=>h i (by omega)
  simp only [qY,e,h n (by omega)]
theorem qqv {t:qx} {ks:List qbU} :qY (qmf t ks) ks.length=none↔ks.Pairwise Lt∧∀k∈ks,qmL t t.2.2.1 k=true:=by
 constructor
 ·intro h
  refine ⟨qgQ _ (fun a b c=>qd5 a b c) ks fun i hi=> ?_,fun k hk=> ?_⟩
  ·have:=qa1 h (i+1) hi
   simp only [qmf] at this
   split at this
   ·cases this
   ·split at this
    ·cases this
    ·rename_i hn
     simp only [Nat.succ_pos,true_and,Nat.add_sub_cancel,Classical.not_not] at hn
     rw [qaf _ hi,qaf _ (show i<ks.length by omega)] at hn
     exact hn
  ·obtain ⟨i,hi,rfl⟩:=List.getElem_of_mem hk
   have:=qa1 h i hi
   simp only [qmf] at this
   split at this
   ·cases this
   ·rename_i hn
    rw [qaf _ hi] at hn
    simpa using hn
 ·rintro ⟨h1,h2⟩
  refine qhU fun i hi=> ?_
  simp only [qmf]
  rw [qaf _ hi,if_neg (by simp [h2 _ (List.getElem_mem hi)]),if_neg]
  rintro ⟨h0,h3⟩
  rw [qaf _ (show i - 1<ks.length by omega)] at h3
  exact h3 (List.pairwise_iff_getElem.1 h1 (i - 1) i (by omega) hi (by omega))
theorem qt7 {t:qx} {cs:List Int} {es:List qfz} {i:Nat} {e:Int} (h:qpy t cs es i=some e):e=3∨e=6:=by
 simp only [qpy] at h
 split at h
 ·injection h with h; omega
 ·split at h
  ·injection h with h; omega
  ·obtain ⟨j,_,k2,_⟩:=qaQ h
   exact qpS k2
theorem qkR {x:qlM} :qut x=0↔qoR x:=by
 unfold qut
 constructor
 ·intro h
  by_cases ht:qjt x.1 x.2.1≠0
  ·rw [if_pos ht] at h; exact absurd h ht
  rw [if_neg ht] at h
  have ht:qjt x.1 x.2.1=0:=Classical.not_not.1 ht
  cases hf:qY (qpy x.1 x.2.1 x.2.2.1) x.2.2.1.length with
  |some e=>
   rw [hf] at h
   obtain ⟨i,_,k2,_⟩:=qaQ hf
   have:=qt7 k2
   simp only at h
   omega
  |none=>
   rw [hf] at h
   simp only at h
   have hnd:(qeI x.2.2.1).Nodup:=by
    by_cases q:(qeI x.2.2.1).Nodup
    ·exact q
    ·rw [if_neg q] at h; cases h
   have ha:∀(i:Nat) (hi:i<x.2.2.1.length),(qmL x.1 x.2.1 (x.2.2.1[i]).1=true∧(x.2.2.1[i]).2.1≠[])∧(0<i→Lt (x.2.2.1.getD (i - 1) zE).1 (x.2.2.1[i]).1)∧qY (qmf x.1 (x.2.2.1[i]).2.1) (x.2.2.1[i]).2.1.length=none:=fun i hi=>by
    have:=qa1 hf i hi
    simp only [qpy,qaf _ hi] at this
    split at this
    ·cases this
    ·rename_i h1
     split at this
     ·cases this
     ·rename_i h2
      simp only [not_or,Bool.not_eq_false] at h1
      refine ⟨⟨h1.1,fun e=>h1.2 (by rw [e]; rfl)⟩,fun h0=> ?_,this⟩
      exact Classical.byContradiction fun q=>h2 ⟨h0,q⟩
   refine ⟨ht,fun e he=> ?_,fun e he=> ?_,?_,hnd⟩
   ·obtain ⟨i,hi,rfl⟩:=List.getElem_of_mem he
    exact (ha i hi).1
   ·obtain ⟨i,hi,rfl⟩:=List.getElem_of_mem he
    exact qqv.1 (ha i hi).2.2
   ·refine qgQ (fun a b:qfz=>Lt a.1 b.1) (fun a b c=>qd5 a.1 b.1 c.1) x.2.2.1 fun i hi=> ?_
    have:=(ha (i+1) hi).2.1 (by omega)
    rw [Nat.add_sub_cancel,qaf _ (show i<x.2.2.1.length by omega)] at this
    exact this
 ·intro h
  rw [if_neg (fun q=>q h.tab)]
  have:qY (qpy x.1 x.2.1 x.2.2.1) x.2.2.1.length=none:=qhU fun i hi=>by
   have he:=List.getElem_mem hi
   simp only [qpy,qaf _ hi]
   rw [if_neg (by
    have:=h.vals _ he
    simp only [this.1,Bool.true_eq_false,false_or]
    exact fun e=>this.2 (List.length_eq_zero_iff.1 e)),if_neg]
   ·exact qqv.2 (h.keys _ he)
   ·rintro ⟨h0,h3⟩
    rw [qaf _ (show i - 1<x.2.2.1.length by omega)] at h3
    exact h3 (List.pairwise_iff_getElem.1 h.ord (i - 1) i (by omega) hi (by omega))
  rw [this]
  simp only
  rw [if_pos h.nod]
theorem Lt.le {a b c:qbU} (h:Lt a b) (h2:0≤qac a c):0≤qac b c:=by
 rcases Int.lt_or_le (qac b c) 0 with q|q
 ·have:=qd5 a b c h q; omega
 ·exact q
structure At {α:Type} (f:α→Int) (xs:List α) (k:Nat):Prop where
 le:k≤xs.length
 lo:∀(i:Nat) (hi:i<xs.length),i<k→f xs[i]<0
 hi:∀(i:Nat) (hi:i<xs.length),k≤i→0≤f xs[i]
open Classical in
theorem qk3 (N:Nat) (ks:List qbU) (key:qbU) (hs:ks.Pairwise Lt) (hk:SmR ks) (hN:2000000<N) (hB:N≤1099511627776):∃k:Nat,At (fun r=>qac r key) ks k∧qO N (ks,(key,(phiR N,())))=some (((k:Int),(decide (key∈ks),())),()):=by
 have hl:=hk.1
 obtain ⟨k,k1,k2,k3,k4⟩:=quI (N:=N) ([]:qbU) (xs:=ks) (v:=key) (φ:=phiR N) (f:=fun r=>qac r key) (fun a ha=>by
  have:=hk.2 a ha
  simp only [phiR,qcM N a key (by omega) hB,qdg,Option.map_some]) (fun i j hi hj hij h0=>by
   rcases Nat.lt_or_ge i j with q|q
   ·exact (List.pairwise_iff_getElem.1 hs i j hi hj q).le h0
   ·have:i=j:=by omega
    subst this; exact h0) (by omega) (by omega)
 refine ⟨k,⟨k1,k2,k3⟩,?_⟩
 have e:(∃h:k<ks.length,qac ks[k] key=0)↔key∈ks:=by
  constructor
  ·rintro ⟨h,h2⟩
   rw [←(qb9 _ _).1 h2]
   exact List.getElem_mem h
  ·intro h
   obtain ⟨i,hi,rfl⟩:=List.getElem_of_mem h
   have h0:qac ks[i] ks[i]=0:=(qb9 _ _).2 rfl
   have hki:k≤i:=by
    rcases Nat.lt_or_ge i k with q|q
    ·have:=k2 i hi q; omega
    ·exact q
   rcases Nat.lt_or_ge k i with q|q
   ·have h3:=k3 k (by omega) (Nat.le_refl _)
    have:=List.pairwise_iff_getElem.1 hs k i (by omega) hi q
    have h4:Lt ks[k] ks[i]:=this
    unfold Lt at h4
    omega
   ·have:k=i:=by omega
    subst this
    exact ⟨hi,h0⟩
 exact k4.trans (by rw [decide_eq_decide.2 e])
open Classical in
theorem qrP (N:Nat) (x:qlM) (v:qbU) (h:SmI N x) (hs:x.2.2.1.Pairwise fun a b=>Lt a.1 b.1):∃k:Nat,At (fun e:qfz=>qac e.1 v) x.2.2.1 k∧qcL N (x,(v,()))=some (((k:Int),(decide (v∈x.2.2.1.map (·.1)),())),()):=by
 have hn:=h.n
 have hb:=h.big
 have hes:=h.es
 obtain ⟨k,k1,k2,k3,k4⟩:=quI (N:=N) zE (xs:=x.2.2.1) (v:=v) (φ:=fun x0:qfz×(qbU×Unit)=>(qgy (fun y1:((Int×Unit)×Unit)=>(y1.1.1,())) (qbN N (x0.1,(x0.2.1,()))))) (f:=fun e=>qac e.1 v) (fun a ha=>by
  have:=h.vals a ha
  simp only [qbN,qcM N a.1 v (by omega) hn,qdg,Option.map_some,qg,qj,cond_true]) (fun i j hi hj hij h0=>by
   rcases Nat.lt_or_ge i j with q|q
   ·have h4:Lt (x.2.2.1[i]).1 (x.2.2.1[j]).1:=List.pairwise_iff_getElem.1 hs i j hi hj q
    exact h4.le h0
   ·have:i=j:=by omega
    subst this; exact h0) (by omega) (by omega)
 refine ⟨k,⟨k1,k2,k3⟩,?_⟩
 have e:(∃h:k<x.2.2.1.length,qac (x.2.2.1[k]).1 v=0)↔v∈x.2.2.1.map (·.1):=by
  constructor
  ·rintro ⟨h,h2⟩
   rw [←(qb9 _ _).1 h2]
   exact List.mem_map_of_mem (List.getElem_mem h)
  ·intro hv
   obtain ⟨e,he,rfl⟩:=List.mem_map.1 hv
   obtain ⟨i,hi,rfl⟩:=List.getElem_of_mem he
   have h0:qac (x.2.2.1[i]).1 (x.2.2.1[i]).1=0:=(qb9 _ _).2 rfl
   have hki:k≤i:=by
    rcases Nat.lt_or_ge i k with q|q
    ·have:=k2 i hi q; omega
    ·exact q
   rcases Nat.lt_or_ge k i with q|q
   ·have h3:=k3 k (by omega) (Nat.le_refl _)
    have h4:Lt (x.2.2.1[k]).1 (x.2.2.1[i]).1:=List.pairwise_iff_getElem.1 hs k i (by omega) hi q
    unfold Lt at h4
    omega
   ·have:k=i:=by omega
    subst this
    exact ⟨hi,h0⟩
 have k4':qW N (x.2.2.1,(v,((fun x0=>(qgy (fun y1=>(y1.1.1,())) (qbN N (x0.1,(x0.2.1,()))))),())))=some (((k:Int),(decide (∃h:k<x.2.2.1.length,qac (x.2.2.1[k]).1 v=0),())),()):=k4
 simp only [qcL,k4',qg,qj,cond_true]
 rw [decide_eq_decide.2 e]
open Classical in
theorem qoP (N:Nat) (x:qlM) (key:qbU) (h:SmI N x) (hs:∀e∈x.2.2.1,e.2.1.Pairwise Lt):qdu N (x,(key,()))=some ((decide (key∈qeI x.2.2.1),()),()):=by
 have hn:=h.n
 have hb:=h.big
 have hes:=h.es
 have h1:∀e∈x.2.2.1,qbO N (e,(key,()))=some ((decide (key∈e.2.1),()),()):=fun e he=>by
  obtain ⟨k,_,k2⟩:=qk3 N e.2.1 key (hs e he) (h.smr he) hb hn
  have k2':qO N (e.2.1,(key,((fun x0=>(qgy (fun y1=>(y1.1.1,())) (qD N (x0.1,(x0.2.1,()))))),())))=some (((k:Int),(decide (key∈e.2.1),())),()):=k2
  simp only [qbO,qH,k2',qg,qj,cond_true]
 have key2:∃m:Int,qai N (x.2.2.1,((fun x0=>(qgy (fun y1=>(y1.1.1,())) (qbO N (x0.1,(key,()))))),()))=some ((m,()),())∧(0≤m↔key∈qeI x.2.2.1):=by
  have e1:qai N (x.2.2.1,((fun x0=>(qgy (fun y1=>(y1.1.1,())) (qbO N (x0.1,(key,()))))),()))=match qY (fun i=>if key∈(x.2.2.1.getD i zE).2.1 then some (i:Int) else none) x.2.2.1.length with
    |some e=>some ((e,()),())
    |none=>some ((-1,()),()):=by
   simp only [qai,qH]
   refine (qaM (S:=Int×Unit) (fun i=>((i:Int),())) x.2.2.1.length (fun i=>if key∈(x.2.2.1.getD i zE).2.1 then some (i:Int) else none) (fun e=>some ((e,()),())) (some ((-1,()),())) rfl (fun i hi _ ih=> ?_) (fun _ ih=> ?_) (by omega)).trans ?_
   ·simp only [qbE hi,qal hi,cond_true,q8 _ hi,h1 _ (List.getElem_mem hi),qdg,Option.map_some,qg,qj,Bool.and_self,qaf _ hi,qaA (show i<4611686018427387904 by omega)]
    by_cases q:key∈(x.2.2.1[i]).2.1
    ·rw [if_pos q,decide_eq_true q,cond_true]
    ·rw [if_neg q,decide_eq_false q,cond_false]
   ·simp only
    rw [qB (qbv (Nat.lt_irrefl _))]
   ·cases qY (fun i=>if key∈(x.2.2.1.getD i zE).2.1 then some (i:Int) else none) x.2.2.1.length <;> rfl
  rw [e1]
  cases hf:qY (fun i=>if key∈(x.2.2.1.getD i zE).2.1 then some (i:Int) else none) x.2.2.1.length with
  |none=>
   refine ⟨-1,rfl,⟨fun h=>by omega,fun hk=> ?_⟩⟩
   obtain ⟨e,he,hke⟩:=List.mem_flatMap.1 hk
   obtain ⟨i,hi,rfl⟩:=List.getElem_of_mem he
   have:=qa1 hf i hi
   rw [qaf _ hi,if_pos hke] at this
   cases this
  |some m=>
   obtain ⟨i,hi,k2,_⟩:=qaQ hf
   split at k2
   ·rename_i hke
    injection k2 with k2
    subst k2
    rw [qaf _ hi] at hke
    exact ⟨_,rfl,⟨fun _=>List.mem_flatMap.2 ⟨_,List.getElem_mem hi,hke⟩,fun _=>by omega⟩⟩
   ·cases k2
 obtain ⟨m,m1,m2⟩:=key2
 simp only [qdu,qaE,m1,qg,qj,cond_true,qd4]
 rw [decide_eq_decide.2 m2]
end
end Go.Proofs.YtghccmfcndnljaaGreat
namespace Go.Proofs.YtghccmfcndnljaaGreat
open Go.Vi
noncomputable section
abbrev zX:qlM:=((([]:List UInt8),(([]:List qe),(([]:List Int),()))),(([]:List Int),(([]:List qc),())))
theorem qud {t:qx} {r:qbU} {i:Nat} {e:Int} (h:qq2 t r i=some e):e=8∨e=7:=by
 simp only [qq2] at h
 split at h
 ·injection h with h; omega
 ·split at h
  ·injection h with h; omega
  ·cases h
theorem qhR {t:qx} {r:qbU} (h:qfZ t r=0):qeP r=0∧r.length=t.2.1.length∧qY (qq2 t r) r.length=none:=by
 unfold qfZ at h
 split at h
 ·rename_i h1; exact absurd h h1
 rename_i h1
 split at h
 ·cases h
 rename_i h2
 refine ⟨Classical.not_not.1 h1,Classical.not_not.1 h2,?_⟩
 cases hf:qY (qq2 t r) r.length with
 |none=>rfl
 |some e=>
  rw [hf] at h
  obtain ⟨i,_,k2,_⟩:=qaQ hf
  have:=qud k2
  simp only at h
  omega
inductive InsR (v key:qbU) (es:List qfz):List qfz→Prop where
 |old (A B:List qfz) (k1 k2:List qbU) (he:es=A++(v,(k1++k2,()))::B) (h1:∀k∈k1,Lt k key) (h2:∀k∈k2,Lt key k):InsR v key es (A++(v,(k1++key::k2,()))::B)
 |new (A B:List qfz) (he:es=A++B) (h1:∀e∈A,Lt e.1 v) (h2:∀e∈B,Lt v e.1):InsR v key es (A++(v,([key],()))::B)
theorem qqd {ks:List qbU} {key:qbU} {k:Nat} (h:At (fun r=>qac r key) ks k) (hn:key∉ks):(∀r∈ks.take k,Lt r key)∧∀r∈ks.drop k,Lt key r:=by
 constructor
 ·intro r hr
  obtain ⟨i,hi,rfl⟩:=List.getElem_of_mem hr
  rw [List.length_take] at hi
  rw [List.getElem_take]
  exact h.lo i (by omega) (by omega)
 ·intro r hr
  obtain ⟨i,hi,rfl⟩:=List.getElem_of_mem hr
  rw [List.length_drop] at hi
  rw [List.getElem_drop]
  have h3:=h.hi (k+i) (by omega) (by omega)
  have h4:qac ks[k+i] key≠0:=fun e=>hn (by rw [←(qb9 _ _).1 e]; exact List.getElem_mem _)
  show qac key ks[k+i]<0
  rw [qeW]
  omega
open Classical in
theorem qs3 (N:Nat) (x:qlM) (r:qbU) (h:SmI N x) (hx:qut x=0) (hr:qfZ x.1 r=0) (hk:qiA x.1.2.2.1 r∉qeI x.2.2.1):
  ∃es',InsR (qdz r x.2.1) (qiA x.1.2.2.1 r) x.2.2.1 es'∧qaC N (x,(r,()))=some (((x.1,(x.2.1,(es',()))),(0,())),()):=by
 have g:=qkR.1 hx
 have hn:=h.n
 have hb:=h.big
 have hp:=h.pk
 have hco:=h.cols
 have hcs:=h.cs
 have hes:=h.es
 have hkk:=h.keys
 obtain ⟨t1,t2,t3,t4⟩:=qgn g.tab
 obtain ⟨r1,r2,r3⟩:=qhR hr
 have hIn:InR r.length x.2.1:=by rw [r2]; exact t3
 obtain ⟨k,kA,kE⟩:=qrP N x (qdz r x.2.1) h g.ord
 have kAl:=kA.le
 generalize hv:qdz r x.2.1=v at *
 generalize hky:qiA x.1.2.2.1 r=key at *
 have hkl:key.length≤1048576:=by rw [←hky,qkN]; omega
 have e1:=qnP N x h
 have e2:=qhF N x.1 r (by omega) (by omega) hn
 have e3:=quz N x.1 r (by omega) hn
 have e4:=qoP N x key h (fun e he=>(g.keys e he).1)
 have e5:=quH N x h
 have e6:=qq0 N r x.2.1 hIn hcs hb
 rw [hx] at e1
 rw [hr] at e2
 rw [hky] at e3
 rw [decide_eq_false hk] at e4
 rw [hv] at e6
 have e7:=qr8 N key (by omega)
 obtain ⟨⟨nm,cols,pk,⟨⟩⟩,cs,es,⟨⟩⟩:=x
 simp only at kE kA kAl e1 e2 e3 e4 e5 e6 hes hkk hk
 have z:neI 0 0=false:=by rw [qaN]; rfl
 by_cases hf:v∈es.map (·.1)
 ·rw [decide_eq_true hf] at kE
  obtain ⟨e0,he0,hev⟩:=List.mem_map.1 hf
  obtain ⟨j,hj,hje⟩:=List.getElem_of_mem he0
  have hkj:k=j:=by
   have h0:qac (es[j]).1 v=0:=by rw [hje,hev]; exact (qb9 _ _).2 rfl
   have hkj:k≤j:=by
    rcases Nat.lt_or_ge j k with q|q
    ·have:=kA.lo j hj q; omega
    ·exact q
   rcases Nat.lt_or_ge k j with q|q
   ·have h3:=kA.hi k (by omega) (Nat.le_refl _)
    have h4:Lt (es[k]).1 (es[j]).1:=List.pairwise_iff_getElem.1 g.ord k j (by simpa using (show k<es.length by omega)) hj q
    rw [hje,hev] at h4
    unfold Lt at h4
    omega
   ·omega
  subst hkj
  have hmem:es[k]∈es:=List.getElem_mem hj
  have hsk:SmR (es[k]).2.1:=h.smr hmem
  have hskl:=hsk.1
  have hkn:key∉(es[k]).2.1:=fun q=>hk (List.mem_flatMap.2 ⟨_,hmem,q⟩)
  obtain ⟨k2,k2A,k2E⟩:=qk3 N (es[k]).2.1 key ((g.keys _ hmem).1) hsk hb hn
  rw [decide_eq_false hkn] at k2E
  have k2l:=k2A.le
  have k2E':qO N ((es[k]).2.1,(key,((fun x0=>(qgy (fun y1=>(y1.1.1,())) (qD N (x0.1,(x0.2.1,()))))),())))=some (((k2:Int),(false,())),()):=k2E
  have e8:qaK N ((es[k]).2.1,((k2:Int),(([key]:List qbU),())))=some (((es[k]).2.1.take k2++[key]++(es[k]).2.1.drop k2,()),()):=by
   simp only [qaK]
   rw [if_pos ⟨by omega,by omega,by simp; omega⟩]
   simp only [Int.toNat_natCast]
  have ekk:eqI (k:Int) (k:Int)=true:=by rw [qbg]; simp
  refine ⟨es.take k++(v,((es[k]).2.1.take k2++key::(es[k]).2.1.drop k2,()))::es.drop (k+1),?_,?_⟩
  ·refine .old (es.take k) (es.drop (k+1)) _ _ ?_ (qqd k2A hkn).1 (qqd k2A hkn).2
   rw [List.take_append_drop]
   have:es[k]=(v,((es[k]).2.1,())):=by
    have h5:(es[k]).1=v:=by rw [hje,hev]
    rw [←h5]
   rw [←this,←List.drop_eq_getElem_cons hj,List.take_append_drop]
  ·simp only [qaC,qH,e1,e2,e3,e4,e5,e6,kE,e7,z,qg,qj,cond_true,cond_false,Bool.not_true,qal hj,q8 _ hj,k2E',e8,ekk,Bool.and_self]
   rw [qbK,Int.toNat_natCast,List.set_eq_take_append_cons_drop,if_pos hj]
   have h5:(es[k]).1=v:=by rw [hje,hev]
   rw [h5]
   simp [List.append_assoc]
 ·rw [decide_eq_false hf] at kE
  have e8:qA N (es,((k:Int),(([(v,(([]:List qbU),()))]:List qfz),())))=some ((es.take k++[(v,(([]:List qbU),()))]++es.drop k,()),()):=by
   simp only [qA]
   rw [if_pos ⟨by omega,by omega,by simp; omega⟩]
   simp only [Int.toNat_natCast]
  generalize hes1:es.take k++[(v,(([]:List qbU),()))]++es.drop k=es1 at e8
  have hlt:(es.take k).length=k:=by rw [List.length_take]; omega
  have hk1:k<es1.length:=by rw [←hes1]; simp; omega
  have hge:es1[k]=(v,(([]:List qbU),())):=by
   have:es1[k]? =some (v,(([]:List qbU),())):=by
    rw [←hes1,List.append_assoc,List.getElem?_append_right (by omega),hlt,Nat.sub_self]
    rfl
   rw [List.getElem?_eq_getElem hk1] at this
   exact Option.some.inj this
  obtain ⟨k2,k2A,k2E⟩:=qk3 N [] key List.Pairwise.nil ⟨by simp,by simp⟩ hb hn
  have hk2:k2=0:=by have:=k2A.le; simpa using this
  subst hk2
  have k2E':qO N (([]:List qbU),(key,((fun x0=>(qgy (fun y1=>(y1.1.1,())) (qD N (x0.1,(x0.2.1,()))))),())))=some (((0:Int),(false,())),()):=by
   have:=k2E
   rw [decide_eq_false (by simp)] at this
   exact this
  have e9:qaK N (([]:List qbU),((0:Int),(([key]:List qbU),())))=some (([key],()),()):=by
   simp only [qaK]
   rw [if_pos ⟨by omega,by simp,by simp⟩]
   rfl
  have ekk:eqI (k:Int) (k:Int)=true:=by rw [qbg]; simp
  refine ⟨es.take k++(v,([key],()))::es.drop k,?_,?_⟩
  ·refine .new (es.take k) (es.drop k) (List.take_append_drop k es).symm (fun e he=> ?_) (fun e he=> ?_)
   ·obtain ⟨i,hi,rfl⟩:=List.getElem_of_mem he
    rw [List.length_take] at hi
    rw [List.getElem_take]
    exact kA.lo i (by omega) (by omega)
   ·obtain ⟨i,hi,rfl⟩:=List.getElem_of_mem he
    rw [List.length_drop] at hi
    rw [List.getElem_drop]
    have h3:=kA.hi (k+i) (by omega) (by omega)
    have h4:qac (es[k+i]).1 v≠0:=fun e=>hf (by rw [←(qb9 _ _).1 e]; exact List.mem_map_of_mem (List.getElem_mem _))
    show qac v (es[k+i]).1<0
    rw [qeW]
    omega
  ·simp only [qaC,qH,e1,e2,e3,e4,e5,e6,kE,e7,z,qg,qj,cond_true,cond_false,Bool.not_false,e8,qal hk1,q8 _ hk1,hge,k2E',e9,ekk,Bool.and_self]
   rw [qbK,Int.toNat_natCast,List.set_eq_take_append_cons_drop,if_pos hk1,←hes1]
   have f1:(es.take k++[(v,(([]:List qbU),()))]++es.drop k).take k=es.take k:=by
    rw [List.append_assoc,List.take_append_of_le_length (by omega),List.take_of_length_le (by omega)]
   have f2:(es.take k++[(v,(([]:List qbU),()))]++es.drop k).drop (k+1)=es.drop k:=by
    rw [List.drop_append,List.length_append,hlt]
    simp [List.drop_of_length_le,hlt]
   rw [f1,f2]
end
end Go.Proofs.YtghccmfcndnljaaGreat
namespace Go.Proofs.YtghccmfcndnljaaGreat
open Go.Vi
noncomputable section
def qdT (es:List qfz):List DIR:=es.flatMap fun e=>e.2.1.map fun k=>(e.1,(k,()))
def qft (a b:DIR):Int:=if qac a.1 b.1≠0 then qac a.1 b.1 else qac a.2.1 b.2.1
abbrev LtR (a b:DIR):Prop:=qft a b<0
theorem qmH (a b:DIR):qft b a= - qft a b:=by
 unfold qft
 have h1:=qeW a.1 b.1
 have h2:=qeW a.2.1 b.2.1
 by_cases h:qac a.1 b.1=0
 ·rw [if_neg (by omega),if_neg (by omega)]; omega
 ·rw [if_pos (by omega),if_pos (by omega)]; omega
theorem qjZ (a b:DIR):qft a b=0↔a=b:=by
 obtain ⟨a1,a2,⟨⟩⟩:=a
 obtain ⟨b1,b2,⟨⟩⟩:=b
 unfold qft
 simp only [Prod.mk.injEq,and_true]
 by_cases h:qac a1 b1=0
 ·rw [if_neg (by omega),qb9]
  exact ⟨fun q=>⟨(qb9 _ _).1 h,q⟩,fun q=>q.2⟩
 ·rw [if_pos h]
  exact ⟨fun q=>absurd q h,fun q=>absurd ((qb9 _ _).2 q.1) h⟩
theorem qiu {a b c:DIR} (h1:LtR a b) (h2:LtR b c):LtR a c:=by
 unfold LtR qft at *
 by_cases e1:qac a.1 b.1=0
 ·have:=(qb9 _ _).1 e1
  rw [if_neg (by omega)] at h1
  rw [this]
  by_cases e2:qac b.1 c.1=0
  ·rw [if_neg (by omega)] at h2⊢
   exact qd5 _ _ _ h1 h2
  ·rw [if_pos e2] at h2⊢
   exact h2
 ·rw [if_pos e1] at h1
  by_cases e2:qac b.1 c.1=0
  ·have:=(qb9 _ _).1 e2
   rw [←this,if_pos e1]
   exact h1
  ·rw [if_pos e2] at h2
   have:=qd5 _ _ _ h1 h2
   rw [if_pos (by omega)]
   exact this
theorem LtR.irr {a:DIR} :¬LtR a a:=by unfold LtR; rw [(qjZ a a).2 rfl]; omega
theorem qi3: {l m:List DIR} →l.Perm m→l.Pairwise LtR→m.Pairwise LtR→l=m
 |[],m,h,_,_=>(List.nil_perm.1 h).symm
 |a::l,[],h,_,_=>absurd h.length_eq (by simp)
 |a::l,b::m,h,h1,h2=>by
  have hab:a=b:=by
   have ha:a∈b::m:=h.mem_iff.1 List.mem_cons_self
   have hb:b∈a::l:=h.mem_iff.2 List.mem_cons_self
   rcases List.mem_cons.1 ha with e|ha
   ·exact e
   rcases List.mem_cons.1 hb with e|hb
   ·exact e.symm
   exact absurd (qiu ((List.pairwise_cons.1 h1).1 b hb) ((List.pairwise_cons.1 h2).1 a ha)) LtR.irr
  subst hab
  rw [qi3 ((List.perm_cons a).1 h) (List.pairwise_cons.1 h1).2 (List.pairwise_cons.1 h2).2]
theorem qpi {es:List qfz} (h1:∀e∈es,e.2.1.Pairwise Lt) (h2:es.Pairwise fun a b=>Lt a.1 b.1):(qdT es).Pairwise LtR:=by
 unfold qdT
 refine List.pairwise_flatMap.2 ⟨fun e he=> ?_,h2.imp fun {a b} hab x hx y hy=> ?_⟩
 ·refine List.pairwise_map.2 ((h1 e he).imp fun {a b} hab=> ?_)
  show qft (e.1,(a,())) (e.1,(b,()))<0
  unfold qft
  rw [if_neg (by simp only [(qb9 e.1 e.1).2 rfl]; omega)]
  exact hab
 ·obtain ⟨k,_,rfl⟩:=List.mem_map.1 hx
  obtain ⟨k',_,rfl⟩:=List.mem_map.1 hy
  show qft (a.1,(k,())) (b.1,(k',()))<0
  unfold qft
  have hab:qac a.1 b.1<0:=hab
  rw [if_pos (by simp only; omega)]
  exact hab
theorem qeG (A B:List qfz):qdT (A++B)=qdT A++qdT B:=by unfold qdT; exact List.flatMap_append
theorem qgc (e:qfz) (B:List qfz):qdT (e::B)=(e.2.1.map fun k=>((e.1,(k,())):DIR))++qdT B:=by unfold qdT; exact List.flatMap_cons
theorem ql5 (e:qfz) (B:List qfz):qeI (e::B)=e.2.1++qeI B:=by unfold qeI; exact List.flatMap_cons
theorem qhj (es:List qfz):(qdT es).map (fun r=>r.2.1)=qeI es:=by
 induction es with
 |nil=>rfl
 |cons e es ih=>rw [qgc,ql5,List.map_append,ih,List.map_map]; simp [Function.comp_def]
theorem qp9 {v key:qbU} {es es':List qfz} (h:InsR v key es es'):(qdT es').Perm ((v,(key,()))::qdT es):=by
 cases h with
 |old A B k1 k2 he h1 h2=>
  subst he
  rw [qeG,qeG,qgc,qgc]
  simp only [List.map_append,List.map_cons]
  refine List.perm_iff_count.2 fun x=> ?_
  simp only [List.count_append,List.count_cons]
  omega
 |new A B he h1 h2=>
  subst he
  rw [qeG,qeG,qgc]
  refine List.perm_iff_count.2 fun x=> ?_
  simp only [List.map_cons,List.map_nil,List.count_append,List.count_cons,List.count_nil]
  omega
theorem qtv {v key:qbU} {es es':List qfz} (h:InsR v key es es'):(qeI es').Perm (key::qeI es):=by
 have:=(qp9 h).map (fun r=>r.2.1)
 rw [qhj,List.map_cons,qhj] at this
 exact this
theorem qtH {x:qlM} {v key:qbU} {es':List qfz} (g:qoR x) (hv:qmL x.1 x.2.1 v=true) (hk:qmL x.1 x.1.2.2.1 key=true) (hn:key∉qeI x.2.2.1) (h:InsR v key x.2.2.1 es'):qoR (x.1,(x.2.1,(es',()))):=by
 obtain ⟨g1,g2,g3,g4,g5⟩:=g
 obtain ⟨t,cs,es,⟨⟩⟩:=x
 simp only at g1 g2 g3 g4 g5 hv hk hn h
 have hnod:(qeI es').Nodup:=(qtv h).nodup_iff.2 (List.nodup_cons.2 ⟨hn,g5⟩)
 cases h with
 |old A B k1 k2 he h1 h2=>
  subst he
  have hm:(v,(k1++k2,()))∈A++(v,(k1++k2,()))::B:=by simp
  refine ⟨g1,fun e he=> ?_,fun e he=> ?_,?_,hnod⟩
  ·simp only [List.mem_append,List.mem_cons] at he
   rcases he with he|rfl|he
   ·exact g2 e (by simp [he])
   ·exact ⟨hv,by simp⟩
   ·exact g2 e (by simp [he])
  ·simp only [List.mem_append,List.mem_cons] at he
   rcases he with he|rfl|he
   ·exact g3 e (by simp [he])
   ·obtain ⟨p1,p2⟩:=g3 _ hm
    simp only at p1 p2
    obtain ⟨q1,q2,q3⟩:=List.pairwise_append.1 p1
    refine ⟨List.pairwise_append.2 ⟨q1,List.pairwise_cons.2 ⟨h2,q2⟩,fun a ha b hb=> ?_⟩,fun k hk'=> ?_⟩
    ·rcases List.mem_cons.1 hb with rfl|hb
     ·exact h1 a ha
     ·exact q3 a ha b hb
    ·simp only [List.mem_append,List.mem_cons] at hk'
     rcases hk' with q|rfl|q
     ·exact p2 k (by simp [q])
     ·exact hk
     ·exact p2 k (by simp [q])
   ·exact g3 e (by simp [he])
  ·obtain ⟨q1,q2,q3⟩:=List.pairwise_append.1 g4
   obtain ⟨q4,q5⟩:=List.pairwise_cons.1 q2
   refine List.pairwise_append.2 ⟨q1,List.pairwise_cons.2 ⟨q4,q5⟩,fun a ha b hb=> ?_⟩
   rcases List.mem_cons.1 hb with rfl|hb
   ·exact q3 a ha (v,(k1++k2,())) List.mem_cons_self
   ·exact q3 a ha b (List.mem_cons_of_mem _ hb)
 |new A B he h1 h2=>
  subst he
  refine ⟨g1,fun e he=> ?_,fun e he=> ?_,?_,hnod⟩
  ·simp only [List.mem_append,List.mem_cons] at he
   rcases he with he|rfl|he
   ·exact g2 e (by simp [he])
   ·exact ⟨hv,by simp⟩
   ·exact g2 e (by simp [he])
  ·simp only [List.mem_append,List.mem_cons] at he
   rcases he with he|rfl|he
   ·exact g3 e (by simp [he])
   ·exact ⟨by simp,fun k hk'=>by rw [List.mem_singleton.1 hk']; exact hk⟩
   ·exact g3 e (by simp [he])
  ·obtain ⟨q1,q2,q3⟩:=List.pairwise_append.1 g4
   refine List.pairwise_append.2 ⟨q1,List.pairwise_cons.2 ⟨fun b hb=>h2 b hb,q2⟩,fun a ha b hb=> ?_⟩
   rcases List.mem_cons.1 hb with rfl|hb
   ·exact h1 a ha
   ·exact q3 a ha b hb
theorem qkp: {r:qbU} →(∀v∈r,qrx v=0)→qcC r=0
 |[],_=>rfl
 |v::r,h=>by
  rw [qcC,if_neg (fun q=>q (h v List.mem_cons_self))]
  exact qkp fun u hu=>h u (List.mem_cons_of_mem _ hu)
theorem qr7:(n:Nat)→(l:List Int)→l.Nodup→(∀k∈l,0≤k∧k<(n:Int))→l.length≤n
 |0,[],_,_=>by simp
 |0,k::l,_,h=>by have:=h k List.mem_cons_self; omega
 |n+1,l,hn,h=>by
  have h1:=qr7 n (l.erase (n:Int)) (hn.erase _) fun k hk=>by
   have h2:=h k (List.mem_of_mem_erase hk)
   have h3:k≠(n:Int):=fun e=>by rw [e] at hk; exact (List.Nodup.not_mem_erase hn) hk
   omega
  have:=List.length_erase (a:=(n:Int)) (l:=l)
  split at this <;> omega
theorem qlP {t:qx} {cs:List Int} (h:qjt t cs=0):cs.length≤6∧t.2.2.1.length≤6:=by
 obtain ⟨h6,hp,hc,hord⟩:=qgn h
 have hcn:cs.Nodup:=by
  unfold qjt at h
  rw [if_neg (by omega)] at h
  split at h
  ·rename_i e he
   obtain ⟨i,_,k2,_⟩:=qaQ he
   simp only [pkG] at k2
   split at k2
   ·injection k2 with k2; omega
   ·cases k2
  split at h
  ·cases h
  split at h
  ·rename_i e he
   obtain ⟨i,_,k2,_⟩:=qaQ he
   simp only [qn2] at k2
   split at k2
   ·injection k2 with k2; omega
   ·cases k2
  rename_i hf
  refine List.nodup_iff_pairwise_ne.2 (List.pairwise_iff_getElem.2 fun i j hi hj hij e=> ?_)
  have:=qa1 hf j hj
  simp only [qn2] at this
  split at this
  ·cases this
  ·rename_i hn
   rw [qaf _ hj] at hn
   simp only [not_or] at hn
   exact hn.2.2 (List.mem_of_getElem? (i:=i) (by rw [List.getElem?_take,if_pos hij,List.getElem?_eq_getElem hi,e]))
 have hpn:t.2.2.1.Nodup:=by
  have:t.2.2.1.Pairwise (fun a b=>a<b):=qgQ _ (fun a b c h1 h2=>by omega) _ fun i hi=>by
   have:=hord i hi
   rw [qaf _ hi,qaf _ (show i<t.2.2.1.length by omega)] at this
   exact this
  exact List.nodup_iff_pairwise_ne.2 (this.imp fun {a b} h e=>by omega)
 have h1:=qr7 _ cs hcn hc
 have h2:=qr7 _ t.2.2.1 hpn hp
 omega
theorem qtD {r:qbU} {pk:List Int} (h:InR r.length pk):qiA pk r=qdz r pk:=by
 unfold qiA qdz
 refine List.map_congr_left fun k hk=> ?_
 have:=h k hk
 unfold qsq
 rw [dif_pos this]
 obtain ⟨m,rfl⟩:∃m:Nat,k=(m:Int):=⟨k.toNat,by omega⟩
 have hm:m<r.length:=by omega
 simp only [Int.toNat_natCast]
 rw [q8 _ hm]
theorem qqu {t:qx} {cs:List Int} {r:qbU} (hr:qfZ t r=0) (hc:InR t.2.1.length cs) (hl:cs.length≤12):qmL t cs (qdz r cs)=true:=by
 obtain ⟨r1,r2,r3⟩:=qhR hr
 have hrl:¬12<r.length:=fun q=>by unfold qeP at r1; rw [if_pos q] at r1; cases r1
 have hz:∀v∈r,qrx v=0:=by
  unfold qeP at r1
  rw [if_neg hrl] at r1
  exact qjx r1
 have hmem:∀k∈cs,∃(m:Nat) (h1:m<r.length) (h2:m<t.2.1.length),k=(m:Int):=fun k hk=>by
  have:=hc k hk
  exact ⟨k.toNat,by omega,by omega,by omega⟩
 unfold qmL
 rw [decide_eq_true (by simp [qdz]),decide_eq_true,Bool.true_and,Bool.true_and,Option.isNone_iff_eq_none]
 ·refine qhU fun i hi=> ?_
  have hi':i<cs.length:=by simpa [qdz] using hi
  obtain ⟨m,m1,m2,me⟩:=hmem cs[i] (List.getElem_mem hi')
  have e1:(qdz r cs).getD i zV=r[m]:=by
   rw [qaf _ hi]
   simp only [qdz,List.getElem_map]
   rw [me,q8 _ m1]
  unfold qti
  rw [e1,qaf _ hi',me,q8 _ m2,if_pos]
  have:=qa1 r3 m m1
  simp only [qq2,qaf _ m1,qaf _ m2] at this
  unfold qto
  by_cases q1:(r[m]).1=0
  ·by_cases q2:(t.2.1[m]).2.2.1=false
   ·rw [if_pos ⟨q1,q2⟩] at this; cases this
   ·simp [q1,q2]
  ·rw [if_neg (fun q=>q1 q.1)] at this
   by_cases q2:(r[m]).1=(t.2.1[m]).2.1
   ·simp [q2]
   ·rw [if_pos ⟨q1,q2⟩] at this; cases this
 ·unfold qeP
  rw [if_neg (by simp [qdz]; omega)]
  refine qkp fun v hv=> ?_
  obtain ⟨k,hk,rfl⟩:=List.mem_map.1 hv
  obtain ⟨m,m1,_,rfl⟩:=hmem k hk
  rw [q8 _ m1]
  exact hz _ (List.getElem_mem m1)
end
end Go.Proofs.YtghccmfcndnljaaGreat
namespace Go.Proofs.YtghccmfcndnljaaGreat
open Go.Vi
noncomputable section
theorem qkc {E:Type} {g:Nat→Option E} {e:E} {i:Nat} (h1:qY g i=none) (h2:g i=some e):∀ {n:Nat},i<n→qY g n=some e
 |0,h=>by omega
 |n+1,h=>by
  by_cases q:i=n
  ·subst q
   simp only [qY,h1,h2]
  ·have:=qkc h1 h2 (n:=n) (by omega)
   simp only [qY,this]
theorem qrf (N:Nat) (x:qlM) (r:qbU) (h:SmI N x) (hx:qut x=0) (hr:qfZ x.1 r≠0):qaC N (x,(r,()))=some ((zX,(qfZ x.1 r,())),()):=by
 have hn:=h.n
 have hb:=h.big
 have hco:=h.cols
 have e1:=qnP N x h
 have e2:=qhF N x.1 r (by omega) (by omega) hn
 rw [hx] at e1
 have z:neI 0 0=false:=by rw [qaN]; rfl
 have z2:neI (qfZ x.1 r) 0=true:=by rw [qaN]; simp [hr]
 simp only [qaC,qH,e1,e2,z,z2,qg,qj,cond_true,cond_false]
theorem qqS (N:Nat) (x:qlM) (r:qbU) (h:SmI N x) (hx:qut x=0) (hr:qfZ x.1 r=0) (hk:qiA x.1.2.2.1 r∈qeI x.2.2.1):qaC N (x,(r,()))=some ((zX,(9,())),()):=by
 have g:=qkR.1 hx
 have hn:=h.n
 have hb:=h.big
 have hp:=h.pk
 have hco:=h.cols
 have e1:=qnP N x h
 have e2:=qhF N x.1 r (by omega) (by omega) hn
 have e3:=quz N x.1 r (by omega) hn
 have e4:=qoP N x (qiA x.1.2.2.1 r) h (fun e he=>(g.keys e he).1)
 rw [hx] at e1
 rw [hr] at e2
 rw [decide_eq_true hk] at e4
 have z:neI 0 0=false:=by rw [qaN]; rfl
 simp only [qaC,qH,e1,e2,e3,e4,z,qg,qj,cond_true,cond_false]
theorem qpW {t:qx} {cs:List Int} {r:qbU} (h:qmL t cs r=true):r.length=cs.length:=by
 unfold qmL at h
 simp only [Bool.and_eq_true,decide_eq_true_eq] at h
 exact h.1
theorem qvz: {es:List qfz} →(∀e∈es,e.2.1≠[])→es.length≤(qeI es).length
 |[],_=>by simp
 |e::es,h=>by
  rw [ql5,List.length_append]
  have h1:=qvz (es:=es) fun e he=>h e (List.mem_cons_of_mem _ he)
  have h2:=List.length_pos_iff.2 (h e List.mem_cons_self)
  simp only [List.length_cons]
  omega
theorem qqp {N:Nat} {x:qlM} (h:Sm N x.1) (g:qoR x) (hl:(qeI x.2.2.1).length≤1048576):SmI N x:=by
 have ⟨h1,h2⟩:=qlP g.tab
 refine { toSm:=h,cs:=by omega,es:= ?_,vals:=fun e he=> ?_,keys:=hl,krow:=fun k hk=> ?_ }
 ·have:=qvz fun e he=>(g.vals e he).2
  omega
 ·have:=qpW (g.vals e he).1
  omega
 ·obtain ⟨e,he,hke⟩:=List.mem_flatMap.1 hk
  have:=qpW ((g.keys e he).2 k hke)
  omega
theorem qng {t:qx} {cs:List Int} (h:qjt t cs=0):qoR (t,(cs,([],()))):=⟨h,by simp,by simp,by simp,by simp [qeI]⟩
theorem qqq (N:Nat) (t:qx) (cs:List Int) (h:Sm N t) (hc:cs.length≤1048576):qaO N (t,(cs,()))=if qjt t cs=0 then some (((t,(cs,([],()))),(0,())),()) else some ((zX,(qjt t cs,())),()):=by
 have hn:=h.n
 have hb:=h.big
 have hp:=h.pk
 have e1:=qgC N t cs (by omega) (by omega) hn
 by_cases ht:qjt t cs=0
 ·rw [if_pos ht]
  rw [ht] at e1
  have z:neI 0 0=false:=by rw [qaN]; rfl
  have e2:=quH N (t,(cs,([],()))) (qqp h (qng ht) (by simp [qeI]))
  simp only [qaO,qH,e1,e2,z,qg,qj,cond_true,cond_false]
 ·rw [if_neg ht]
  have z2:neI (qjt t cs) 0=true:=by rw [qaN]; simp [ht]
  simp only [qaO,qH,e1,z2,qg,qj,cond_true,cond_false]
def prow (t:qx) (cs:List Int) (r:qbU):DIR:=(qdz r cs,(qiA t.2.2.1 r,()))
open Classical in
def qrc (t:qx) (rows:List qbU) (i:Nat):Option Int:=if qfZ t (rows.getD i [])≠0 then some (qfZ t (rows.getD i [])) else if qiA t.2.2.1 (rows.getD i [])∈(rows.take i).map (qiA t.2.2.1) then some 9 else none
def BRes (t:qx) (cs:List Int) (rows:List qbU) (r:Option ((qlM×(Int×Unit))×Unit)):Prop:=
 (∃e,qY (qrc t rows) rows.length=some e∧r=some ((zX,(e,())),()))∨
 (qY (qrc t rows) rows.length=none∧∃es,qoR (t,(cs,(es,())))∧(qdT es).Perm (rows.map (prow t cs))∧r=some (((t,(cs,(es,()))),(0,())),()))
theorem qp0 (N:Nat) (t:qx) (cs:List Int) (rows:List qbU) (h:Sm N t) (hc:cs.length≤1048576) (ht:qjt t cs=0) (hl:rows.length≤24):BRes t cs rows (qJ N (t,(cs,(rows,())))):=by
 have hn:=h.n
 have hb:=h.big
 obtain ⟨t1,t2,t3,t4⟩:=qgn ht
 obtain ⟨s1,s2⟩:=qlP ht
 have e1:=qqq N t cs h hc
 rw [if_pos ht] at e1
 have z:neI 0 0=false:=by rw [qaN]; rfl
 simp only [qJ,qH,e1,z,qg,qj,cond_true,cond_false]
 rw [qB (by rw [qbB,qn]; exact decide_eq_false (by omega))]
 refine qan (S:=qlM×(qlM×(Int×Unit))) (fun p=>rows.length - p.2.2.1.toNat) (fun p=>∃(i:Nat) (es:List qfz),p=(zX,((t,(cs,(es,()))),((i:Int),())))∧i≤rows.length∧qY (qrc t rows) i=none∧qoR (t,(cs,(es,())))∧(qdT es).Perm ((rows.take i).map (prow t cs))) (BRes t cs rows) ?_ N _ ⟨0,[],rfl,by omega,rfl,qng ht,by simp [qdT]⟩ (by simp; omega)
 rintro ih _ ⟨i,es,rfl,hi,hf,g,hp⟩ hih
 have hak:qeI es=(qdT es).map fun r=>r.2.1:=(qhj es).symm
 have hkp:(qeI es).Perm ((rows.take i).map (qiA t.2.2.1)):=by
  rw [hak]
  have:=hp.map (fun r:DIR=>r.2.1)
  rw [List.map_map] at this
  exact this
 have hkl:(qeI es).length≤24:=by rw [hkp.length_eq,List.length_map,List.length_take]; omega
 have hsm:SmI N (t,(cs,(es,()))):=qqp h g (by simp only; omega)
 have hidx:=qkR.2 g
 simp only [Int.toNat_natCast] at hih⊢
 by_cases hil:i<rows.length
 ·simp only [qbE hil,qal hil,cond_true,q8 _ hil]
  by_cases hr:qfZ t rows[i]=0
  ·by_cases hk:qiA t.2.2.1 rows[i]∈qeI es
   ·have e2:=qqS N (t,(cs,(es,()))) rows[i] hsm hidx hr hk
    have z9:neI 9 0=true:=by rw [qaN]; rfl
    simp only [e2,qg,qj,cond_true,z9]
    refine .inl ⟨9,qkc hf ?_ hil,rfl⟩
    unfold qrc
    rw [qaf _ hil,if_neg (fun q=>q hr),if_pos (hkp.mem_iff.1 hk)]
   ·obtain ⟨es',hins,e2⟩:=qs3 N (t,(cs,(es,()))) rows[i] hsm hidx hr hk
    simp only at e2 hins
    simp only [e2,qg,qj,cond_true,cond_false,z,qaA (show i<4611686018427387904 by omega)]
    have hInp:InR (rows[i]).length t.2.2.1:=by rw [(qhR hr).2.1]; exact t2
    refine hih _ ⟨i+1,es',rfl,hil,?_,?_,?_⟩ (by simp only [Int.toNat_natCast]; omega)
    ·simp only [qY,hf]
     unfold qrc
     rw [qaf _ hil,if_neg (fun q=>q hr),if_neg (fun q=>hk (hkp.mem_iff.2 q))]
    ·refine qtH g (qqu hr t3 (show cs.length≤12 by omega)) ?_ hk hins
     rw [qtD hInp]
     exact qqu hr t2 (show t.2.2.1.length≤12 by omega)
    ·refine (qp9 hins).trans ?_
     rw [qcn hil,List.map_append]
     refine (List.Perm.cons _ hp).trans ?_
     exact (List.perm_append_singleton _ _).symm
  ·have e2:=qrf N (t,(cs,(es,()))) rows[i] hsm hidx hr
   simp only at e2
   have z2:neI (qfZ t rows[i]) 0=true:=by rw [qaN]; simp [hr]
   simp only [e2,qg,qj,cond_true,z2]
   refine .inl ⟨qfZ t rows[i],qkc hf ?_ hil,rfl⟩
   unfold qrc
   rw [qaf _ hil,if_pos hr]
 ·have hie:i=rows.length:=by omega
  subst hie
  simp only [qbv (Nat.lt_irrefl _),cond_false]
  rw [List.take_length] at hp
  exact .inr ⟨hf,es,g,hp,rfl⟩
theorem qsf (N:Nat) (t:qx) (cs:List Int) (rows:List qbU) (h:Sm N t) (hc:cs.length≤1048576) (ht:qjt t cs=0) (hl:24<rows.length):qJ N (t,(cs,(rows,())))=some ((zX,(2,())),()):=by
 have e1:=qqq N t cs h hc
 rw [if_pos ht] at e1
 have z:neI 0 0=false:=by rw [qaN]; rfl
 simp only [qJ,qH,e1,z,qg,qj,cond_true,cond_false]
 rw [qP (by rw [qbB,qn]; exact decide_eq_true (by omega))]
theorem qta (N:Nat) (t:qx) (cs:List Int) (rows:List qbU) (h:Sm N t) (hc:cs.length≤1048576) (ht:qjt t cs≠0):qJ N (t,(cs,(rows,())))=some ((zX,(qjt t cs,())),()):=by
 have e1:=qqq N t cs h hc
 rw [if_neg ht] at e1
 have z2:neI (qjt t cs) 0=true:=by rw [qaN]; simp [ht]
 simp only [qJ,qH,e1,z2,qg,qj,cond_true,cond_false]
theorem qt2 (N:Nat) (hB:N≤1099511627776) (hN:2000000<N):qaP N ()=some ((true,()),()):=by
 let t:qx:=(([97]:List UInt8),(([(([107]:List UInt8),(1,(false,()))),(([116]:List UInt8),(3,(true,())))]:List qe),(([0]:List Int),())))
 let rw0:qbU:=[(1,(5,(([]:List UInt8),()))),(3,(0,(([113]:List UInt8),())))]
 have ht:qjt t [1]=0:=by simp [t,qjt,qY,pkG,qn2]
 have hr:qfZ t rw0=0:=by simp [t,rw0,qfZ,qeP,qcC,qrx,qY,qq2]
 have hbd:=qp0 N t [1] [rw0] ⟨hB,hN,by simp [t],by simp [t]⟩ (by simp) ht (by simp)
 have hf:qY (qrc t [rw0]) [rw0].length=none:=by
  simp only [List.length_cons,List.length_nil,qY]
  unfold qrc
  simp [hr]
 rcases hbd with ⟨e,h1,_⟩|⟨_,es,g,hp,he⟩
 ·rw [hf] at h1; cases h1
 have hk:(qeI es).length=1:=by
  rw [←qhj,List.length_map,hp.length_eq]; rfl
 have hes:∃a k,es=[(a,([k],()))]:=by
  have hv:=g.vals
  simp only at hv
  cases es with
  |nil=>simp [qeI] at hk
  |cons e es=>
   have h1:=List.length_pos_iff.2 (hv e List.mem_cons_self).2
   have h2:=qvz (es:=es) fun e he=>(hv e (List.mem_cons_of_mem _ he)).2
   rw [ql5,List.length_append] at hk
   have h3:es=[]:=List.length_eq_zero_iff.1 (by omega)
   subst h3
   obtain ⟨a,ks,⟨⟩⟩:=e
   simp only at h1 hk
   match ks,h1,hk with
   |[k],_,_=>exact ⟨a,k,rfl⟩
   |[],h1,_=>simp at h1
   |_::_::_,_,hk=>simp at hk; omega
 obtain ⟨a,k,rfl⟩:=hes
 have hs:qay N ()=some ((t,()),()):=rfl
 have z0:eqI 0 0=true:=by rw [qbg]; rfl
 have l1:eqI (qt [((a,([k],())):qfz)]) 1=true:=by rw [qbg,qn]; rfl
 have l2:inB 0 (qt [((a,([k],())):qfz)])=true:=qal (i:=0) (by simp)
 have l3:qk [((a,([k],())):qfz)] 0 zE=(a,([k],())):=q8 (i:=0) zE (by simp)
 have l4:eqI (qt [k]) 1=true:=by rw [qbg,qn]; rfl
 have he':qJ N (t,(([1]:List Int),((([(1,(5,(([]:List UInt8),()))),(3,(0,(([113]:List UInt8),())))]:List qa)::([]:List (List qa))),())))=some (((t,([1],([(a,([k],()))],()))),(0,())),()):=he
 simp only [qaP,qH,hs,qg,qj,he',z0,l1,l2,l3,l4,Bool.and_self,Bool.or_true,cond_true]
end
end Go.Proofs.YtghccmfcndnljaaGreat
namespace Go.Proofs.YtghccmfcndnljaaGreat
open Go.Vi
noncomputable section
theorem qq8 {es:List qfz} {i:Nat} (h:i<es.length):qdT (es.take (i+1))=qdT (es.take i)++(es[i]).2.1.map fun k=>((es[i]).1,(k,())):=by
 rw [qcn h,qeG,qgc]; simp [qdT]
theorem qk7 (es:List qfz):(qdT es).length=(qeI es).length:=by rw [←qhj,List.length_map]
theorem qmw (N:Nat) (x:qlM) (h:SmI N x):qa7 N (x,())=some ((qdT x.2.2.1,()),()):=by
 have hb:=h.big
 have hes:=h.es
 have hkk:=h.keys
 simp only [qa7]
 refine qeE (S:=List DIR×(Int×Unit)) (fun i=>(qdT (x.2.2.1.take i),((i:Int),()))) x.2.2.1.length _ (by simp [qdT]) (fun i hi ih=> ?_) (fun ih=> ?_) (by omega)
 ·have hkl:=(h.smr (List.getElem_mem hi)).1
  have hle:=qhG x.2.2.1 (i+1)
  rw [qhv hi,List.length_append] at hle
  simp only [qbE hi,qal hi,cond_true,q8 _ hi]
  refine qoc (S:=List DIR×(Int×Unit)) (fun k=>(qdT (x.2.2.1.take i)++((x.2.2.1[i]).2.1.take k).map (fun k=>((x.2.2.1[i]).1,(k,()))),((k:Int),()))) (x.2.2.1[i]).2.1.length (ih (qdT (x.2.2.1.take (i+1)),(((i+1:Nat):Int),()))) (by simp) (fun k hk kh=> ?_) (fun kh=> ?_) (by omega)
  ·have hroom:qcX (qt (qdT (x.2.2.1.take i)++((x.2.2.1[i]).2.1.take k).map (fun k=>(((x.2.2.1[i]).1,(k,())):DIR)))) (qt ([((x.2.2.1[i]).1,((x.2.2.1[i]).2.1[k],()))]:List DIR)) 48=true:=qdC (by
    rw [List.length_append,qk7,List.length_map,List.length_take]; simp; omega)
   simp only [qbE hk,qal hk,cond_true,q8 _ hk,hroom,qaA (show k<4611686018427387904 by omega),qbw]
   rw [qcn hk,List.map_append,←List.append_assoc]
   rfl
  ·simp only [qbv (Nat.lt_irrefl _),cond_false,List.take_length,qaA (show i<4611686018427387904 by omega)]
   rw [qq8 hi]
 ·simp only [qbv (Nat.lt_irrefl _),cond_false,List.take_length]
theorem qpl (N:Nat) (a:List DIR) (hB:N≤1099511627776) (hl:a.length<N) (hr:∀r∈a,r.1.length<N∧r.2.1.length<N):qaY N (a,(a,()))=some ((true,()),()):=by
 simp only [qaY,qH]
 rw [qB (by rw [qaN]; simp)]
 refine qeE (S:=Int×Unit) (fun i=>((i:Int),())) a.length _ (by simp) (fun i hi ih=> ?_) (fun ih=> ?_) hl
 ·have h:=hr _ (List.getElem_mem hi)
  simp only [qbE hi,qal hi,cond_true,q8 _ hi,qfE N _ _ h.1 (by omega),qfE N _ _ h.2 (by omega),qg,qj,decide_true,Bool.or_true,Bool.and_self,Bool.not_true,Bool.or_self,cond_false,qaA (show i<4611686018427387904 by omega)]
 ·simp only [qbv (Nat.lt_irrefl _),cond_false]
theorem qlq (N:Nat) (a:List Int) (hB:N≤1099511627776) (hl:a.length<N):qaG N (a,(a,()))=some ((true,()),()):=by
 simp only [qaG]
 rw [qB (by rw [qaN]; simp)]
 refine qeE (S:=Int×Unit) (fun i=>((i:Int),())) a.length _ (by simp) (fun i hi ih=> ?_) (fun ih=> ?_) hl
 ·simp only [qbE hi,qal hi,cond_true,q8 _ hi,qaN,decide_true,Bool.not_true,Bool.and_self,cond_false,qaA (show i<4611686018427387904 by omega)]
 ·simp only [qbv (Nat.lt_irrefl _),cond_false]
theorem qpj (N:Nat) (a:List qe) (hB:N≤1099511627776) (hl:a.length<N):qbb N (a,(a,()))=some ((true,()),()):=by
 simp only [qbb]
 rw [qB (by rw [qaN]; simp)]
 refine qeE (S:=Int×Unit) (fun i=>((i:Int),())) a.length _ (by simp) (fun i hi ih=> ?_) (fun ih=> ?_) hl
 ·have eb:∀b:Bool,eqB b b=true:=fun b=>by cases b <;> simp [qnj]
  simp only [qbE hi,qal hi,cond_true,q8 _ hi,qlD,qbg,eb,decide_true,Bool.not_true,Bool.and_self,cond_false,qaA (show i<4611686018427387904 by omega)]
 ·simp only [qbv (Nat.lt_irrefl _),cond_false]
theorem ql4 (N:Nat) (t:qx) (cs:List Int) (es like:List qfz) (h:SmI N (t,(cs,(es,())))) (g:qoR (t,(cs,(es,())))):qam N ((t,(cs,(es,()))),((t,(cs,(like,()))),(qdT es,())))=some ((true,()),()):=by
 have hn:=h.n
 have hb:=h.big
 have hp:=h.pk
 have hco:=h.cols
 have hcs:=h.cs
 have hkk:=h.keys
 have hva:=h.vals
 have hkr:=h.krow
 have e1:=qn0 N _ h
 rw [qkR.2 g] at e1
 have e2:=qmw N _ h
 simp only at hp hco hcs hkk hva hkr e2
 have e3:=qpl N (qdT es) hn (by rw [qk7]; omega) (fun r hr=>by
  obtain ⟨e,he,hr⟩:=List.mem_flatMap.1 hr
  obtain ⟨k,hk,rfl⟩:=List.mem_map.1 hr
  have:=hva e he
  have:=hkr k (List.mem_flatMap.2 ⟨e,he,hk⟩)
  simp only
  omega)
 have e4:=qlq N t.2.2.1 hn (by omega)
 have e5:=qpj N t.2.1 hn (by omega)
 have e6:=qlq N cs hn (by omega)
 have z:eqI 0 0=true:=by rw [qbg]; rfl
 simp only [qam,qH,e1,e2,e3,e4,e5,e6,qg,qj,Bool.or_true,Bool.and_self,cond_true,qlD,decide_true,z]
abbrev zR:DIR:=(([]:List qa),(([]:List qa),()))
def OkR (N:Nat) (r:DIR):Prop:=r.1.length<N∧r.2.1.length<N
theorem qus (N:Nat) (hB:N≤1099511627776) (xs:List DIR) (i j:Int) (i0:0≤i) (i1:i<(xs.length:Int)) (j0:0≤j) (j1:j<(xs.length:Int)) (hi:OkR N (qk xs i zR)) (hj:OkR N (qk xs j zR)):
  qkj (e:=qi) (qaR N) xs i j=some (decide (qft (qk xs i zR) (qk xs j zR)<0)):=by
 have b1:inB i (qt xs)=true:=by rw [qfR,qn]; exact decide_eq_true ⟨i0,i1⟩
 have b2:inB j (qt xs)=true:=by rw [qfR,qn]; exact decide_eq_true ⟨j0,j1⟩
 unfold qkj
 rw [b1,b2]
 simp only [Bool.and_self,cond_true,qaR,qH,b1,b2]
 have c1:=qd8 N (qk xs i zR).1 (qk xs j zR).1 hi.1 hB
 have c2:=qd8 N (qk xs i zR).2.1 (qk xs j zR).2.1 hi.2 hB
 simp only [c1,c2,qg,qj,cond_true,qaN,qbB,qdg]
 unfold qft
 by_cases q:qac (qk xs i zR).1 (qk xs j zR).1=0
 ·rw [if_neg (fun e=>e q)]; simp [q]
 ·rw [if_pos q]; simp [q]
abbrev psiR:(DIR×(DIR×Unit))→Option (Int×Unit):=fun x=>some (qft x.1 x.2.1,())
theorem cmpPsi (N:Nat):Cmp (OkR N) psiR (fun a b=>¬qft b a<0) where
 ans a b ha hb:=⟨qft a b,rfl,by simp⟩
 tot a b _ _:=by
  by_cases h:qft b a<0
  ·right; intro h2; exact LtR.irr (qiu (a:=b) (b:=a) (c:=b) h h2)
  ·exact .inl h
 trans a b c _ _ _ h1 h2 h3:=by
  by_cases e:qft b a<0
  ·exact h1 e
  ·by_cases e2:qft a b<0
   ·exact h2 (qiu (a:=c) (b:=a) (c:=b) h3 e2)
   ·have:a=b:=(qjZ a b).1 (by rw [qmH a b] at e; omega)
    rw [this] at h3; exact h2 h3
theorem qqU {α:Type} (N:Nat) (m:Nat) (hm:m≤1) (hN:100<N) (φ:List α→Int→Int→Option Bool):qmP N (([],φ),((m:Int),()))=some ((),(([]:List α),())):=by
 obtain ⟨M,rfl⟩:∃M,N=M+1:=⟨N - 1,by omega⟩
 have hins:qkm (M+1) ((([]:List α),φ),(0,((m:Int),())))=some ((),(([]:List α),())):=by
  simp only [qkm]
  rw [qbW]
  have e:qK .i64 0 1=1:=by rw [qav (by omega) (by omega)]; omega
  simp only [e]
  rw [qB (ltF (by omega))]
 simp only [qmP,qH]
 rw [qbW]
 simp only
 rw [qB (leF (by omega))]
 simp only [hins,qg,qj,cond_true]
 rw [qbW]
 simp only
 rw [qB (ltF (by omega))]
theorem qvh (N:Nat) (xs:List DIR) (hB:N≤1099511627776) (hN:2 * xs.length+200<N) (hx:∀r∈xs,OkR N r) (hn:xs.Nodup):∃out,qQ N (xs,())=some ((out,()),())∧out.Perm xs∧out.Pairwise LtR:=by
 have hstb:qcT N=qmP N:=rfl
 unfold qQ
 rw [hstb]
 by_cases h1:xs.length≤1
 ·rw [qP (by simp only; rw [qd4,qn]; exact decide_eq_true (by omega))]
  simp only [qn]
  rw [qqU N xs.length h1 (by omega)]
  refine ⟨xs,by simp only [qdg,Option.map_some],.refl _,?_⟩
  match xs,h1 with
  |[],_=>simp
  |[a],_=>simp
 ·rw [qB (by simp only; rw [qd4,qn]; exact decide_eq_false (by omega))]
  have hal:qm9 (OkR N) xs.length zR (qkj (e:=qi) (qaR N)) psiR:=fun ys hy i j i0 i1 j0 j1=>by
   refine ⟨qft (qk ys i zR) (qk ys j zR),?_,rfl⟩
   exact qus N hB ys i j i0 (by rw [hy.len]; exact i1) j0 (by rw [hy.len]; exact j1) (hy.get zR i0 i1) (hy.get zR j0 j1)
  obtain ⟨out,o1,o2,o3⟩:=qqM zR hal (cmpPsi N) (n:=xs.length) (N:=N) (by omega) (by omega) (ys:=xs) ⟨rfl,hx⟩
  simp only [qn]
  rw [o1]
  refine ⟨out,by simp only [qdg,Option.map_some],o2.perm,?_⟩
  have hl:=o2.perm.length_eq
  have hnd:out.Nodup:=o2.perm.nodup_iff.2 hn
  rw [List.pairwise_iff_getElem]
  intro i j hi hj hij
  have h:=o3 i j (by omega) (by omega) (by omega)
  rw [q8 _ hi,q8 _ hj] at h
  have hne:out[i]≠out[j]:=fun e=>(List.pairwise_iff_getElem.1 (List.nodup_iff_pairwise_ne.1 hnd) i j hi hj hij) e
  have h0:qft out[i] out[j]≠0:=fun e=>hne ((qjZ _ _).1 e)
  rw [qmH] at h
  show qft out[i] out[j]<0
  omega
end
end Go.Proofs.YtghccmfcndnljaaGreat
namespace Go.Proofs.YtghccmfcndnljaaGreat
open Go.Vi
noncomputable section
open Classical in
theorem contIR (N:Nat) (want:List DIR) (q:DIR) (hB:N≤1099511627776) (hl:want.length<N) (hr:∀o∈want,o.2.1.length<N):
  qN N (want,((fun x15=>(qgy (fun y16=>(y16.1.1,())) (qz N (x15.1,(q,()))))),()))=some ((decide (q.2.1∈want.map fun o=>o.2.1),()),()):=by
 have h1:∀o∈want,qz N (o,(q,()))=some ((decide (o.2.1=q.2.1),()),()):=fun o ho=>by
  have:=hr o ho
  simp only [qz,qfE N o.2.1 q.2.1 this (by omega),qg,qj,cond_true]
 have key2:∃m:Int,qae N (want,((fun x15=>(qgy (fun y16=>(y16.1.1,())) (qz N (x15.1,(q,()))))),()))=some ((m,()),())∧(0≤m↔q.2.1∈want.map fun o=>o.2.1):=by
  have e1:qae N (want,((fun x15=>(qgy (fun y16=>(y16.1.1,())) (qz N (x15.1,(q,()))))),()))=match qY (fun i=>if (want.getD i zR).2.1=q.2.1 then some (i:Int) else none) want.length with
    |some e=>some ((e,()),())
    |none=>some ((-1,()),()):=by
   simp only [qae,qH]
   refine (qaM (S:=Int×Unit) (fun i=>((i:Int),())) want.length (fun i=>if (want.getD i zR).2.1=q.2.1 then some (i:Int) else none) (fun e=>some ((e,()),())) (some ((-1,()),())) rfl (fun i hi _ ih=> ?_) (fun _ ih=> ?_) hl).trans ?_
   ·simp only [qbE hi,qal hi,cond_true,q8 _ hi,h1 _ (List.getElem_mem hi),qdg,Option.map_some,qg,qj,Bool.and_self,qaf _ hi,qaA (show i<4611686018427387904 by omega)]
    by_cases e:(want[i]).2.1=q.2.1
    ·rw [if_pos e,decide_eq_true e,cond_true]
    ·rw [if_neg e,decide_eq_false e,cond_false]
   ·simp only
    rw [qB (qbv (Nat.lt_irrefl _))]
   ·cases qY (fun i=>if (want.getD i zR).2.1=q.2.1 then some (i:Int) else none) want.length <;> rfl
  rw [e1]
  cases hf:qY (fun i=>if (want.getD i zR).2.1=q.2.1 then some (i:Int) else none) want.length with
  |none=>
   refine ⟨-1,rfl,⟨fun h=>by omega,fun hk=> ?_⟩⟩
   obtain ⟨e,he,hke⟩:=List.mem_map.1 hk
   obtain ⟨i,hi,rfl⟩:=List.getElem_of_mem he
   have:=qa1 hf i hi
   rw [qaf _ hi,if_pos hke] at this
   cases this
  |some m=>
   obtain ⟨i,hi,k2,_⟩:=qaQ hf
   split at k2
   ·rename_i hke
    injection k2 with k2
    subst k2
    rw [qaf _ hi] at hke
    exact ⟨_,rfl,⟨fun _=>List.mem_map.2 ⟨_,List.getElem_mem hi,hke⟩,fun _=>by omega⟩⟩
   ·cases k2
 obtain ⟨m,m1,m2⟩:=key2
 simp only [qN,m1,qg,qj,cond_true,qd4]
 rw [decide_eq_decide.2 m2]
theorem law24' (N:Nat) (t:qx) (cs:List Int) (rows:List qbU) (h:Sm N t) (hc:cs.length≤1048576):qM N (t,(cs,(rows,())))=some ((true,()),()):=by
 have hn:=h.n
 have hb:=h.big
 have hp:=h.pk
 have hco:=h.cols
 have e1:=qhh N t cs (by omega) (by omega) hn
 have e2:=qgC N t cs (by omega) (by omega) hn
 have e3:=qt2 N hn hb
 have e4:=qqq N t cs h hc
 have z0:eqI 0 0=true:=by rw [qbg]; rfl
 have zn:neI 0 0=false:=by rw [qaN]; rfl
 have l0:qt ([]:List qfz)=0:=by rw [qn]; rfl
 have a0:qK .i64 0 0=0:=by rw [qav (by omega) (by omega)]; rfl
 have nself:∀k:Int,neI k k=false:=fun k=>by rw [qaN]; simp
 have eself:∀k:Int,eqI k k=true:=fun k=>by rw [qbg]; simp
 by_cases ht':¬qjt t cs=0
 ·have e5:=qta N t cs rows h hc ht'
  rw [if_neg ht'] at e4
  have z2:neI (qjt t cs) 0=true:=by rw [qaN]; simp [ht']
  simp only [qM,qH,e1,e2,e3,e4,e5,z2,nself,eself,l0,a0,qg,qj,cond_true,cond_false,Bool.not_true,Bool.not_false,Bool.or_false,Bool.false_or,Bool.or_true,Bool.and_self]
 have ht:=Classical.not_not.1 ht'
 rw [ht] at e1 e2
 rw [if_pos ht] at e4
 have gn:=qng ht
 obtain ⟨t1,t2,t3,t4⟩:=qgn ht
 obtain ⟨s1,s2⟩:=qlP ht
 have e6:qam N ((t,(cs,(([]:List qfz),()))),((t,(cs,(([]:List qfz),()))),(([]:List DIR),())))=some ((true,()),()):=ql4 N t cs [] [] (qqp h gn (by simp [qeI])) gn
 by_cases hl:24<rows.length
 ·have e5:=qsf N t cs rows h hc ht hl
  have z24:ltI 24 (qt rows)=true:=by rw [qbB,qn]; exact decide_eq_true (by omega)
  simp only [qM,qH,e1,e2,e3,e4,e5,e6,z24,zn,nself,eself,l0,qg,qj,cond_true,cond_false,Bool.not_true,Bool.not_false,Bool.or_false,Bool.false_or,Bool.or_true,Bool.and_self,Bool.or_self]
 have z24:ltI 24 (qt rows)=false:=by rw [qbB,qn]; exact decide_eq_false (by omega)
 have hbr:=qp0 N t cs rows h hc ht (by omega)
 have hpl:∀(i:Nat),((rows.take i).map (prow t cs)).length≤24:=fun i=>by rw [List.length_map,List.length_take]; omega
 have hpr:∀(i:Nat),∀o∈(rows.take i).map (prow t cs),o.2.1.length<N:=fun i o ho=>by
  obtain ⟨r,_,rfl⟩:=List.mem_map.1 ho
  show (qiA t.2.2.1 r).length<N
  rw [qkN]; omega
 have hmk:∀(i:Nat),((rows.take i).map (prow t cs)).map (fun o=>o.2.1)=(rows.take i).map (qiA t.2.2.1):=fun i=>by rw [List.map_map]; rfl
 have loop:∀(y2:Int) (B:qlM) (fin:List DIR→Option ((Bool×Unit)×Unit)),
   qab (S:=((List qb)×(Int×Unit))) (R:=((Bool×Unit)×Unit)) N (fun ih10=>(fun p11=>(bif (ltI p11.2.1 (qt rows)) then (bif (inB p11.2.1 (qt rows)) then (bif (qw (qaz N (t,((qk rows p11.2.1 ([]:List qa)),())))) then (bif (neI (qr (qaz N (t,((qk rows p11.2.1 ([]:List qa)),()))) ((0,()),())).1.1 0) then (some ((((eqI y2 (qr (qaz N (t,((qk rows p11.2.1 ([]:List qa)),()))) ((0,()),())).1.1)&&(eqI (qt B.2.2.1) 0)),()),())) else (bif (qw (qaj N (t,(cs,((qk rows p11.2.1 ([]:List qa)),()))))) then (bif (qw (qN N (p11.1,((fun x15=>(qgy (fun y16=>(y16.1.1,())) (qz N (x15.1,((qr (qaj N (t,(cs,((qk rows p11.2.1 ([]:List qa)),())))) (((([]:List qa),(([]:List qa),())),()),())).1.1,()))))),())))) then (bif (qr (qN N (p11.1,((fun x16=>(qgy (fun y17=>(y17.1.1,())) (qz N (x16.1,((qr (qaj N (t,(cs,((qk rows p11.2.1 ([]:List qa)),())))) (((([]:List qa),(([]:List qa),())),()),())).1.1,()))))),()))) ((false,()),())).1.1 then (some ((((eqI y2 9)&&(eqI (qt B.2.2.1) 0)),()),())) else (bif (qcX (qt p11.1) (qt ([(qr (qaj N (t,(cs,((qk rows p11.2.1 ([]:List qa)),())))) (((([]:List qa),(([]:List qa),())),()),())).1.1]:List qb)) 48) then (ih10 ((qe2 p11.1 ([(qr (qaj N (t,(cs,((qk rows p11.2.1 ([]:List qa)),())))) (((([]:List qa),(([]:List qa),())),()),())).1.1]:List qb)),((qK .i64 p11.2.1 1),()))) else none)) else none) else none)) else none) else none) else fin p11.1))) (([]:List qb),(0,()))
   =match qY (qrc t rows) rows.length with
    |some e=>some ((((eqI y2 e)&&(eqI (qt B.2.2.1) 0)),()),())
    |none=>fin (rows.map (prow t cs)):=by
  intro y2 B fin
  refine (qaM (S:=List DIR×(Int×Unit)) (fun i=>((rows.take i).map (prow t cs),((i:Int),()))) rows.length (qrc t rows) (fun e=>some ((((eqI y2 e)&&(eqI (qt B.2.2.1) 0)),()),())) (fin (rows.map (prow t cs))) (by simp) (fun i hi hf ih=> ?_) (fun _ ih=> ?_) (by omega)).trans ?_
  ·have c1:=qkB N t rows[i] (by omega) (by omega) hn
   simp only [qbE hi,qal hi,cond_true,q8 _ hi,c1,qg,qj]
   by_cases hr:qfZ t rows[i]=0
   ·have hIn:InR (rows[i]).length cs:=by rw [(qhR hr).2.1]; exact t3
    have c2:=qnO N t rows[i] cs hIn hc hp hb hn
    have c3:=contIR N ((rows.take i).map (prow t cs)) (qdz rows[i] cs,(qiA t.2.2.1 rows[i],())) hn (by have:=hpl i; omega) (hpr i)
    rw [hmk i] at c3
    have hroom:qcX (qt ((rows.take i).map (prow t cs))) (qt ([(qdz rows[i] cs,(qiA t.2.2.1 rows[i],()))]:List DIR)) 48=true:=qdC (by have:=hpl i; simp at this⊢; omega)
    simp only [hr,zn,cond_false,c2,qg,qj,cond_true,c3,hroom,qbw,qaA (show i<4611686018427387904 by omega)]
    unfold qrc
    rw [qaf _ hi,if_neg (fun q=>q hr)]
    by_cases hk:qiA t.2.2.1 rows[i]∈(rows.take i).map (qiA t.2.2.1)
    ·rw [if_pos hk,decide_eq_true hk,cond_true]
    ·rw [if_neg hk,decide_eq_false hk,cond_false,qcn hi,List.map_append]
     rfl
   ·have z2:neI (qfZ t rows[i]) 0=true:=by rw [qaN]; simp [hr]
    simp only [z2,cond_true]
    unfold qrc
    rw [qaf _ hi,if_pos hr]
  ·simp only [qbv (Nat.lt_irrefl _),cond_false,List.take_length]
  ·cases qY (qrc t rows) rows.length <;> rfl
 rcases hbr with ⟨e,hf,e5⟩|⟨hf,es,g,hperm,e5⟩
 ·simp only [qM,qH,e1,e2,e3,e4,e5,e6,z24,zn,nself,eself,qg,qj,cond_true,cond_false,Bool.not_true,Bool.not_false,Bool.or_false,Bool.false_or,Bool.or_true,Bool.and_self,Bool.or_self]
  refine (loop e zX (fun w=>bif (bif (eqI e 0) then (qw (qQ N (w,()))&&qw (qam N (zX,((t,(cs,(([]:List qfz),()))),((qr (qQ N (w,())) ((([]:List DIR),()),())).1.1,()))))) else true) then some (((eqI e 0&&(qr (qam N (zX,((t,(cs,(([]:List qfz),()))),((qr (qQ N (w,())) ((([]:List DIR),()),())).1.1,())))) ((false,()),())).1.1),()),()) else none)).trans ?_
  rw [hf]
  simp only [eself,l0,Bool.and_self]
 ·have hkl:(qeI es).length≤24:=by rw [←qk7,hperm.length_eq,List.length_map]; omega
  have hsm:SmI N (t,(cs,(es,()))):=qqp h g (by simp only; omega)
  have hrs:(qdT es).Pairwise LtR:=qpi (fun e he=>(g.keys e he).1) g.ord
  have hnd:(rows.map (prow t cs)).Nodup:=by
   refine hperm.nodup_iff.1 (List.nodup_iff_pairwise_ne.2 (hrs.imp fun {a b} hab e=> ?_))
   rw [e] at hab
   exact LtR.irr hab
  obtain ⟨out,o1,o2,o3⟩:=qvh N (rows.map (prow t cs)) hn (by rw [List.length_map]; omega) (fun r hr=>by
   obtain ⟨q,_,rfl⟩:=List.mem_map.1 hr
   refine ⟨?_,?_⟩
   ·show (qdz q cs).length<N
    unfold qdz; rw [List.length_map]; omega
   ·show (qiA t.2.2.1 q).length<N
    rw [qkN]; omega) hnd
  have hou:out=qdT es:=qi3 (o2.trans hperm.symm) o3 hrs
  subst hou
  have e7:=ql4 N t cs es [] hsm g
  simp only [qM,qH,e1,e2,e3,e4,e5,e6,z24,zn,nself,eself,qg,qj,cond_true,cond_false,Bool.not_true,Bool.not_false,Bool.or_false,Bool.false_or,Bool.or_true,Bool.and_self,Bool.or_self,Bool.true_and]
  refine (loop 0 (t,(cs,(es,()))) (fun w=>bif (qw (qQ N (w,()))&&qw (qam N ((t,(cs,(es,()))),((t,(cs,(([]:List qfz),()))),((qr (qQ N (w,())) ((([]:List DIR),()),())).1.1,()))))) then some (((qr (qam N ((t,(cs,(es,()))),((t,(cs,(([]:List qfz),()))),((qr (qQ N (w,())) ((([]:List DIR),()),())).1.1,())))) ((false,()),())).1.1,()),()) else none)).trans ?_
  rw [hf]
  simp only [o1,e7,qg,qj,Bool.and_self,cond_true]
theorem law24 (x:qx×(List Int×(List qbU×Unit))) (hg:qlB [qaF,.slice (.int .i64),.slice (.slice qd)] x) (hb:qj1 [qaF,.slice (.int .i64),.slice (.slice qd)] x≤1048576):∃N z,qM N x=some ((true,()),z):=by
 obtain ⟨t,cs,rows,⟨⟩⟩:=x
 have hb':(qaF).bulk t+((Ty.slice (.int .i64)).bulk cs+((Ty.slice (.slice qd)).bulk rows+0))≤1048576:=hb
 have ht:(qaF).bulk t=(Ty.bulk .str t.1)+((Ty.slice qaJ).bulk t.2.1+((Ty.slice (.int .i64)).bulk t.2.2.1+1)):=rfl
 have b1:=qhQ qaJ t.2.1
 have b2:=qhQ (.int .i64) t.2.2.1
 have b3:=qhQ (.int .i64) cs
 obtain ⟨N,hNe⟩:∃N,N=4000000:=⟨_,rfl⟩
 exact ⟨N,(),law24' N t cs rows ⟨by omega,by omega,by omega,by omega⟩ (by omega)⟩
end
end Go.Proofs.YtghccmfcndnljaaGreat
