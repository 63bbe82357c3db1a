import Derived.Test.YtpdhkfofjpankaaFns
import Derived.Test.YtpdhkfofjpankaaViXD
set_option linter.unusedVariables false
set_option linter.unusedSimpArgs false
set_option linter.unnecessarySimpa false
set_option linter.unusedSectionVars false
set_option linter.unusedSimpArgs false
set_option maxRecDepth 100000
namespace Go.Proofs.Ytpdhkfofjpankaa
open Go.Vi
noncomputable section
def qhY (c:UInt8):Bool:=decide (97≤c.toNat)&&decide (c.toNat≤122)
def qgH (c:UInt8):Bool:=decide (48≤c.toNat)&&decide (c.toNat≤57)
def qht (s:List UInt8):Bool:=match s with
 |[]=>false
 |c::r=>decide ((c::r).length≤12)&&(qhY c&&r.all fun c=>qhY c||qgH c)
theorem qiQ (c:UInt8):qfv c=(c.toNat:Int):=qeK c
theorem qoj (c:UInt8):(ltI (qfv c) 97||ltI 122 (qfv c))= !qhY c:=by
 rw [qiQ,qa2,qa2,qhY]
 rw [Bool.eq_iff_iff]
 simp only [Bool.or_eq_true,decide_eq_true_eq,Bool.not_eq_true',Bool.and_eq_false_iff,decide_eq_false_iff_not]
 omega
theorem qnZ (c:UInt8):(ltI (qfv c) 48||ltI 57 (qfv c))= !qgH c:=by
 rw [qiQ,qa2,qa2,qgH]
 rw [Bool.eq_iff_iff]
 simp only [Bool.or_eq_true,decide_eq_true_eq,Bool.not_eq_true',Bool.and_eq_false_iff,decide_eq_false_iff_not]
 omega
def letters:List UInt8:=[97,98,99,100,101,102,103,104,105,106,107,108,109,110,111,112,113,114,115,116,117,118,119,120,121,122,48,49,50,51,52,53,54,55,56,57]
theorem qh7 (N:Nat) (s:List UInt8) (hl:s.length≤4000000000000000000) (hN:s.length<N):qaZ N (s,())=some ((qht s,()),()):=by
 simp only [qaZ,qO]
 cases s with
 |nil=>
  have e1:ltI (qr ([]:List UInt8)) 1=true:=by rw [qa2,qg]; rfl
  simp [e1,qht]
 |cons c r=>
  have hg:qn (c::r) 0 0=c:=qgg (i:=0) rfl
  have e1:ltI (qr (c::r)) 1=false:=by rw [qa2,qg]; simp; omega
  have e2:ltI 12 (qr (c::r))= !decide ((c::r).length≤12):=by
   rw [qa2,qg]
   by_cases h:(c::r).length≤12
   ·simp only [h,decide_true,Bool.not_true,decide_eq_false_iff_not]; omega
   ·simp only [h,decide_false,Bool.not_false,decide_eq_true_eq]; omega
  have e3:inB 0 (qr (c::r))=true:=qF (i:=0) (by simp)
  have e4:(leI 48 (qfv c)&&leI (qfv c) 57)=qgH c:=by
   rw [qiQ,qb2,qb2,qgH]
   congr 1 <;> exact decide_eq_decide.2 (by omega)
  rw [e1,e2,e3,hg,e4]
  simp only [Bool.or_true,Bool.and_self,cond_true]
  by_cases h:(c::r).length≤12
  ·simp only [h,decide_true,Bool.not_true,Bool.or_self,Bool.false_or]
   by_cases hd:qgH c=true
   ·have hlow:qhY c=false:=by
     simp only [qgH,qhY,Bool.and_eq_true,decide_eq_true_eq] at hd⊢
     simp; omega
    rw [hd,cond_true,qht,hlow]
    simp
   ·have hd:qgH c=false:=by simpa using hd
    rw [hd,cond_false]
    refine (qaE (S:=Int×Unit) (R:=(Bool×Unit)×Unit) (fun i=>((i:Int),())) (c::r).length (fun i=>if h:i<(c::r).length then (if qhY (c::r)[i]||qgH (c::r)[i] then none else some ()) else none) (fun _=>some ((false,()),())) (some ((true,()),())) rfl (fun i hi _ ih=> ?_) (fun _ ih=> ?_) hN).trans ?_
    rotate_left
    rotate_left
    ·have key:(qag (fun i=>if h:i<(c::r).length then (if qhY (c::r)[i]||qgH (c::r)[i] then none else some ()) else none) (c::r).length).isNone=(c::r).all (fun c=>qhY c||qgH c):=by
      rw [Bool.eq_iff_iff,List.all_eq_true]
      constructor
      ·intro hn x hx
       obtain ⟨i,hi,rfl⟩:=List.getElem_of_mem hx
       have:=qbt (Option.isNone_iff_eq_none.1 hn) i hi
       rw [dif_pos hi] at this
       by_cases hb:(qhY (c::r)[i]||qgH (c::r)[i])=true
       ·exact hb
       ·rw [if_neg hb] at this; cases this
      ·intro ha
       rw [Option.isNone_iff_eq_none]
       cases hf:qag (fun i=>if h:i<(c::r).length then (if qhY (c::r)[i]||qgH (c::r)[i] then none else some ()) else none) (c::r).length with
       |none=>rfl
       |some u=>
        obtain ⟨i,hi,hg,_⟩:=qcC hf
        rw [dif_pos hi,if_pos (ha _ (List.getElem_mem hi))] at hg
        cases hg
     rw [qht]
     simp only [h,decide_true,Bool.true_and]
     rw [List.all_cons,hd,Bool.or_false] at key
     rw [←key]
     cases qag (fun i=>if h:i<(c::r).length then (if qhY (c::r)[i]||qgH (c::r)[i] then none else some ()) else none) (c::r).length <;> rfl
    ·have hlb:qr (qdL (c::r))=qr (c::r):=by rw [qg,qg,qcE,List.length_map]
     have hgi:qn (qdL (c::r)) (i:Int) 0=qfv (c::r)[i]:=by
      rw [qcE]
      exact qgg (by rw [List.getElem?_map,List.getElem?_eq_getElem hi]; rfl)
     simp only
     rw [hlb,qJ (qbi hi),qJ (qF hi),hgi,qoj,qnZ,q8 (by omega),dif_pos hi]
     cases qhY (c::r)[i] <;> cases qgH (c::r)[i] <;> rfl
    ·have hlb:qr (qdL (c::r))=qr (c::r):=by rw [qg,qg,qcE,List.length_map]
     simp only
     rw [hlb,qK (qaK (Nat.lt_irrefl _))]
  ·have h':decide ((c::r).length≤12)=false:=decide_eq_false h
   rw [qht]
   simp only [h',Bool.not_false,Bool.false_and,Bool.false_or,Bool.true_or,cond_true]
end
end Go.Proofs.Ytpdhkfofjpankaa
namespace Go.Proofs.Ytpdhkfofjpankaa
open Go.Vi
noncomputable section
set_option synthInstance.maxHeartbeats 400000 in
set_option synthInstance.maxSize 4000 in
instance decTable:DecidableEq qj:=inferInstance
set_option synthInstance.maxHeartbeats 400000 in
set_option synthInstance.maxSize 4000 in
instance dec0:DecidableEq qa:=inferInstance
set_option synthInstance.maxHeartbeats 400000 in
set_option synthInstance.maxSize 4000 in
instance dec1:DecidableEq qu:=inferInstance
instance dec2:DecidableEq qs:=inferInstance
instance dec3:DecidableEq (List qu×Unit):=instDecidableEqProd
instance dec4:DecidableEq (List qs×(List qu×Unit)):=instDecidableEqProd
instance decSch:DecidableEq qc:=instDecidableEqProd
theorem qoX (N:Nat) (xs ys:List Int) (hN:xs.length<N) (hb:xs.length≤1099511627776):qbF N (xs,(ys,()))=some ((decide (xs=ys),()),()):=by
 simp only [qbF]
 by_cases hl:xs.length=ys.length
 ·rw [qK (by rw [qaI,qg,qg,hl]; simp)]
  exact qlx (ne:=neI) (fun a b=>qaI a b) xs ys 0 hl hb hN
 ·rw [qJ (by rw [qaI,qg,qg]; simp; omega)]
  have:xs≠ys:=fun h=>hl (by rw [h])
  simp [this]
theorem qnJ (N:Nat) (a b:qs) (hN:a.2.1.length<N) (hB:N≤1099511627776):qaH N (a,(b,()))=some ((decide (a=b),()),()):=by
 obtain ⟨a1,a2,a3,⟨⟩⟩:=a
 obtain ⟨b1,b2,b3,⟨⟩⟩:=b
 simp only at hN
 simp only [qaH,qoX N a2 b2 hN (by omega),qi,qp,qcA,Bool.or_true,cond_true,Prod.mk.injEq,and_true,Bool.decide_and,Bool.and_assoc]
structure Small (N:Nat) (s:qc):Prop where
 n:N≤1099511627776
 t:s.1.length<N
 f:s.2.1.length<N
 c:s.2.2.1.length<N
 tc:∀t∈s.1,t.2.1.length<N
 tk:∀t∈s.1,t.2.2.1.length<N
 fc:∀f∈s.2.1,f.2.1.length<N
 tn:∀t∈s.1,t.1.length<N
 cn:∀t∈s.1,∀c∈t.2.1,c.1.length<N
end
end Go.Proofs.Ytpdhkfofjpankaa
namespace Go.Proofs.Ytpdhkfofjpankaa
open Go.Vi
noncomputable section
def atE {α:Type} (q:α→Bool) (xs:List α) (i:Nat):Option Nat:=match xs[i]? with
 |some x=>if q x=true then some i else none
 |none=>none
def qhz {α:Type} (q:α→Bool) (xs:List α):Option Nat:=qag (atE q xs) xs.length
theorem qfx {α:Type} {q:α→Bool} {xs:List α} {i:Nat} (h:qhz q xs=some i):∃hi:i<xs.length,q xs[i]=true∧∀j (hj:j<i),q (xs[j]'(by omega))=false:=by
 obtain ⟨k,h1,h2,h3⟩:=qcC h
 have hk:xs[k]? =some xs[k]:=List.getElem?_eq_getElem h1
 simp only [atE,hk] at h2
 split at h2
 ·rename_i hq
  injection h2 with h2
  subst h2
  refine ⟨h1,hq,fun j hj=> ?_⟩
  have:=qbt h3 j hj
  simp only [atE,List.getElem?_eq_getElem (show j<xs.length by omega)] at this
  split at this
  ·cases this
  ·rename_i hn; simpa using hn
 ·cases h2
theorem qiK {α:Type} {q:α→Bool} {xs:List α} (h:qhz q xs=none):∀x∈xs,q x=false:=fun x hx=>by
 obtain ⟨i,hi,rfl⟩:=List.getElem_of_mem hx
 have:=qbt h i hi
 simp only [atE,List.getElem?_eq_getElem hi] at this
 split at this
 ·cases this
 ·rename_i hn; simpa using hn
def qhO {α:Type} (q:α→Bool) (xs:List α):Int:=match qhz q xs with
 |some i=>(i:Int)
 |none=> -1
theorem qdi {α:Type} (f:(α×Unit)→Option (Bool×Unit)) (q:α→Bool) (xs:List α) (hf:∀a∈xs,f (a,())=some (q a,())) (d:α) (N:Nat) (hN:xs.length<N) (hb:xs.length≤1099511627776):
  (qay (S:=(Int×Unit)) (R:=((Int×Unit)×Unit)) N (fun ih0=>(fun p1=>(bif (ltI p1.1 (qr xs)) then (bif ((inB p1.1 (qr xs))&&(qG (f ((qn xs p1.1 d),())))) then (qaR (qae (f ((qn xs p1.1 d),())) (false,())).1 (fun y2=>(bif y2 then (some ((p1.1,()),())) else (ih0 ((qbf .i64 p1.1 1),()))))) else none) else (some (((-1),()),()))))) (0,()))=some ((qhO q xs,()),()):=by
 refine (qaE (S:=Int×Unit) (fun i=>((i:Int),())) xs.length (atE q xs) (fun i=>some (((i:Int),()),())) (some ((-1,()),())) rfl (fun i hi _ ih=> ?_) (fun _ ih=> ?_) hN).trans ?_
 ·simp only [qO]
  rw [qJ (qbi hi),qM _ hi,hf _ (List.getElem_mem hi),qi,qp,Bool.and_true,qJ (qF hi),q8 (by omega)]
  simp only [atE,List.getElem?_eq_getElem hi]
  cases q xs[i] <;> rfl
 ·simp only
  rw [qK (qaK (Nat.lt_irrefl _))]
 ·rw [qhO,qhz]
  cases qag (atE q xs) xs.length <;> rfl
theorem qm2 {α:Type} (q:α→Bool) (xs:List α):qrC (qhO q xs) 0=(((qhz q xs).getD 0:Nat):Int):=by
 rw [qhO,qk1]
 cases qhz q xs with
 |none=>rfl
 |some i=>simp only [Option.getD_some]; split <;> omega
theorem qkG {α:Type} (q:α→Bool) (xs:List α):leI 0 (qhO q xs)=(qhz q xs).isSome:=by
 rw [qhO,qb2]
 cases qhz q xs with
 |none=>rfl
 |some i=>simp
def qjP (n:List UInt8) (c:qe):Bool:=decide (c.1=n)
def qc8 (n:List UInt8) (t:qj):Bool:=decide (t.1=n)
theorem qkz (N:Nat) (t:qj) (n:List UInt8) (hN:t.2.1.length<N) (hB:N≤1099511627776):qbs N (t,(n,()))=some (((((qhz (qjP n) t.2.1).getD 0:Nat):Int),((qhz (qjP n) t.2.1).isSome,())),()):=by
 simp only [qbs,qO]
 have h:=qdi (fun x0=>(qgx (fun y1:((Bool×Unit)×Unit)=>(y1.1.1,())) (qaU N (x0.1,(n,()))))) (qjP n) t.2.1 (fun a _=>by simp only [qaU,qei,Option.map_some,qcA,qjP]) (([]:List UInt8),(0,(false,()))) N hN (by omega)
 rw [show qaN N (t.2.1,((fun x0=>(qgx (fun y1=>(y1.1.1,())) (qaU N (x0.1,(n,()))))),()))=some ((qhO (qjP n) t.2.1,()),()) from h]
 simp only [qi,qp,cond_true,qm2,qkG]
theorem qdr (N:Nat) (s:qc) (n:List UInt8) (hN:s.1.length<N) (hB:N≤1099511627776):qA N (s,(n,()))=some (((((qhz (qc8 n) s.1).getD 0:Nat):Int),((qhz (qc8 n) s.1).isSome,())),()):=by
 simp only [qA,qO]
 have h:=qdi (fun x0=>(qgx (fun y1:((Bool×Unit)×Unit)=>(y1.1.1,())) (qa0 N (x0.1,(n,()))))) (qc8 n) s.1 (fun a _=>by simp only [qa0,qei,Option.map_some,qcA,qc8]) (([]:List UInt8),(([]:List qe),(([]:List Int),()))) N hN (by omega)
 rw [show qaW N (s.1,((fun x0=>(qgx (fun y1=>(y1.1.1,())) (qa0 N (x0.1,(n,()))))),()))=some ((qhO (qc8 n) s.1,()),()) from h]
 simp only [qi,qp,cond_true,qm2,qkG]
def qih (s:qc) (n:List UInt8):Option qj:=(qhz (qc8 n) s.1).bind fun i=>s.1[i]?
structure qjW (N:Nat) (t:qj):Prop where
 n:N≤1099511627776
 m:100<N
 nm:t.1.length<N
 c:t.2.1.length<N
 k:t.2.2.1.length<N
 cn:∀c∈t.2.1,c.1.length<N
open Classical in
def colE (cs:List qe) (i:Nat):Option Int:=match cs[i]? with
 |none=>none
 |some c=>if qht c.1=false then some 23 else if c.1∈(cs.take i).map (fun c=>c.1) then some 5 else if c.2.1<1∨3<c.2.1 then some 7 else none
def qkm:qe:=(([]:List UInt8),(0,(false,())))
def pkE (cs:List qe) (ks:List Int) (i:Nat):Option Int:=match ks[i]? with
 |none=>none
 |some k=>if k<0∨(cs.length:Int)≤k∨(qn cs k qkm).2.2.1=true∨(0<i∧k≤ks.getD (i - 1) 0) then some 9 else none
def qqG (t:qj):Int:=if qht t.1=false then 23 else if t.2.1.length=0 then 3 else if 6<t.2.1.length then 2 else match qag (colE t.2.1) t.2.1.length with
 |some e=>e
 |none=>match qag (pkE t.2.1 t.2.2.1) t.2.2.1.length with
  |some e=>e
  |none=>if t.2.2.1.length=0 then 9 else 0
theorem qpQ {cs:List qe} {i:Nat} (hi:i<cs.length):ltI (((qhz (qjP (cs[i]).1) cs).getD 0:Nat):Int) (i:Int)=open Classical in decide ((cs[i]).1∈(cs.take i).map (fun c=>c.1)):=by
 rw [qbx]
 apply decide_eq_decide.2
 cases h:qhz (qjP (cs[i]).1) cs with
 |none=>
  have:=qiK h cs[i] (List.getElem_mem hi)
  simp [qjP] at this
 |some j=>
  obtain ⟨hj,h1,h2⟩:=qfx h
  simp only [Option.getD_some]
  constructor
  ·intro hlt
   refine List.mem_map.2 ⟨cs[j],?_,by simpa [qjP] using h1⟩
   exact List.mem_take_iff_getElem.2 ⟨j,by omega,rfl⟩
  ·intro hm
   obtain ⟨c,hc,he⟩:=List.mem_map.1 hm
   obtain ⟨k,hk,rfl⟩:=List.mem_take_iff_getElem.1 hc
   have hki:k<i:=by omega
   by_cases hjk:k<j
   ·have:=h2 k hjk
    simp [qjP,he] at this
   ·omega
theorem qrv {α:Type} (xs:List α):eqI (qr xs) 0=decide (xs.length=0):=by
 rw [qbJ,qg]; exact decide_eq_decide.2 (by omega)
theorem qj5 {α:Type} (xs:List α) (n:Nat):ltI (n:Int) (qr xs)=decide (n<xs.length):=by
 rw [qa2,qg]; exact decide_eq_decide.2 (by omega)
theorem qmF (N:Nat) (t:qj) (h:qjW N t):qa5 N (t,())=some ((qqG t,()),()):=by
 have hn:=h.n
 have hc:=h.c
 have hk:=h.k
 simp only [qa5,qO]
 rw [qh7 N t.1 (by have:=h.nm; omega) h.nm]
 simp only [qi,qp,cond_true,qrv,show ltI 6 (qr t.2.1)=decide (6<t.2.1.length) from qj5 _ 6]
 unfold qqG
 cases h1:qht t.1 with
 |false=>rfl
 |true=>
  simp only [Bool.not_true,cond_false,if_false,Bool.true_eq_false]
  by_cases h2:t.2.1.length=0
  ·simp [h2]
  by_cases h3:6<t.2.1.length
  ·simp [h2,h3]
  simp only [h2,h3,decide_false,cond_false,if_false]
  refine (qaE (S:=Int×Unit) (fun i=>((i:Int),())) t.2.1.length (colE t.2.1) (fun e=>some ((e,()),())) (match qag (pkE t.2.1 t.2.2.1) t.2.2.1.length with
   |some e=>some ((e,()),())
   |none=>some ((if t.2.2.1.length=0 then 9 else 0,()),())) rfl (fun i hi _ ih=> ?_) (fun _ ih=> ?_) hc).trans ?_
  ·simp only
   have hm:(t.2.1[i]).1.length<N:=h.cn _ (List.getElem_mem hi)
   rw [qJ (qbi hi),qJ (qF hi),qM _ hi,qh7 N _ (by omega) hm,qkz N t _ hc hn,q8 (by omega)]
   simp only [qi,qp,cond_true,qpQ hi,colE,List.getElem?_eq_getElem hi]
   cases qht (t.2.1[i]).1 with
   |false=>rfl
   |true=>
    simp only [Bool.not_true,cond_false,if_false,Bool.true_eq_false]
    by_cases h4:(t.2.1[i]).1∈(t.2.1.take i).map (fun c=>c.1)
    ·simp only [h4,decide_true,cond_true,if_true]
    ·simp only [h4,decide_false,cond_false,if_false]
     rw [qbx,qbx,←Bool.decide_or,qaC]
     split <;> rfl
  ·simp only
   rw [qK (qaK (Nat.lt_irrefl _))]
   refine (qaE (S:=Int×Unit) (fun i=>((i:Int),())) t.2.2.1.length (pkE t.2.1 t.2.2.1) (fun e=>some ((e,()),())) (some ((if t.2.2.1.length=0 then 9 else 0,()),())) rfl (fun i hi _ ih=> ?_) (fun _ ih=> ?_) hk).trans ?_
   ·simp only
    rw [qJ (qbi hi),qJ (qF hi),qM _ hi,q8 (by omega)]
    simp only [pkE,List.getElem?_eq_getElem hi]
    have e1:ltI (t.2.2.1[i]) 0=decide (t.2.2.1[i]<0):=qbx _ _
    have e2:leI (qr t.2.1) (t.2.2.1[i])=decide ((t.2.1.length:Int)≤t.2.2.1[i]):=by rw [qf2,qg]
    have e3:inB (t.2.2.1[i]) (qr t.2.1)=(decide (0≤t.2.2.1[i])&&decide (t.2.2.1[i]<(t.2.1.length:Int))):=by rw [qd1,qg]
    have e4:ltI 0 (i:Int)=decide (0<i):=by rw [qbx]; exact decide_eq_decide.2 (by omega)
    rw [e1,e2,e3,e4]
    change (bif _ then (bif ((_||(qn t.2.1 (t.2.2.1[i]) qkm).2.2.1)||_) then _ else _) else _)=_
    by_cases h4:t.2.2.1[i]<0
    ·simp [h4]
    by_cases h5:(t.2.1.length:Int)≤t.2.2.1[i]
    ·simp [h4,h5]
    have h6:0≤t.2.2.1[i]:=by omega
    have h7:t.2.2.1[i]<(t.2.1.length:Int):=by omega
    by_cases h8:0<i
    ·have e5:inB (qbr .i64 (i:Int) 1) (qr t.2.2.1)=true:=by rw [qbW (by omega) (by omega),qfX,qg]; simp; omega
     have e6:qn t.2.2.1 (qbr .i64 (i:Int) 1) 0=t.2.2.1.getD (i - 1) 0:=by
      rw [qbW (by omega) (by omega),qcW,show ((i:Int) - 1).toNat=i - 1 by omega]
     rw [e5,e6,qf2]
     generalize (qn t.2.1 (t.2.2.1[i]) qkm).2.2.1=bb
     generalize t.2.2.1.getD (i - 1) 0=pv
     cases bb <;> by_cases h9:t.2.2.1[i]≤pv <;> simp [h4,h5,h6,h7,h8,h9]
    ·generalize (qn t.2.1 (t.2.2.1[i]) qkm).2.2.1=bb
     cases bb <;> simp [h4,h5,h6,h7,h8]
   ·simp only
    rw [qK (qaK (Nat.lt_irrefl _)),qaC]
    split <;> rfl
   ·cases qag (pkE t.2.1 t.2.2.1) t.2.2.1.length <;> rfl
  ·cases qag (colE t.2.1) t.2.1.length with
   |some e=>rfl
   |none=>cases qag (pkE t.2.1 t.2.2.1) t.2.2.1.length <;> rfl
end
end Go.Proofs.Ytpdhkfofjpankaa
namespace Go.Proofs.Ytpdhkfofjpankaa
open Go.Vi
noncomputable section
theorem qm9 {α:Type} (q:α→Bool) (xs:List α):(qhz q xs).isSome=xs.any q:=by
 cases h:qhz q xs with
 |none=>
  have:=qiK h
  rw [Option.isSome_none,eq_comm,Bool.eq_false_iff]
  simp only [ne_eq,List.any_eq_true,not_exists,not_and]
  intro x hx
  rw [this x hx]
  simp
 |some i=>
  obtain ⟨hi,h1,_⟩:=qfx h
  rw [Option.isSome_some,eq_comm,List.any_eq_true]
  exact ⟨_,List.getElem_mem hi,h1⟩
def qqL (s:qc):Prop:=∀t∈s.1,∀k∈t.2.2.1,0≤k∧k<(t.2.1.length:Int)
theorem qnI {s:qc} {n:List UInt8} {t:qj} (h:qih s n=some t):t∈s.1:=by
 unfold qih at h
 cases hi:qhz (qc8 n) s.1 with
 |none=>rw [hi] at h; cases h
 |some i=>
  rw [hi] at h
  exact List.mem_of_getElem? h
theorem qfy (s:qc) (n:List UInt8):(qhz (qc8 n) s.1=none∧qih s n=none)∨∃i t,qhz (qc8 n) s.1=some i∧qih s n=some t∧i<s.1.length∧∀d,qn s.1 (i:Int) d=t:=by
 unfold qih
 cases h:qhz (qc8 n) s.1 with
 |none=>exact .inl ⟨rfl,rfl⟩
 |some i=>
  obtain ⟨hi,_⟩:=qfx h
  exact .inr ⟨i,s.1[i],rfl,by simp [hi],hi,fun d=>qM d hi⟩
def fkE (t r:qj) (cs:List Int) (j:Nat):Option Int:=match cs[j]? with
 |none=>none
 |some c=>if c<0∨(t.2.1.length:Int)≤c then some 3 else if (qn t.2.1 c qkm).2.1≠(qn r.2.1 (r.2.2.1.getD j 0) qkm).2.1 then some 7 else none
def vFk (s:qc) (f:qs):Int:=match qih s f.1,qih s f.2.2.1 with
 |some t,some r=>if f.2.1.length≠r.2.2.1.length then 3 else match qag (fkE t r f.2.1) f.2.1.length with
  |some e=>e
  |none=>0
 |_,_=>4
theorem qid {α β:Type} (xs:List α) (ys:List β):neI (qr xs) (qr ys)=decide (xs.length≠ys.length):=by
 rw [qaI,qg,qg,←decide_not]; exact decide_eq_decide.2 (by omega)
theorem qpC (N:Nat) (s:qc) (f:qs) (hB:N≤1099511627776) (ht:s.1.length<N) (hf:f.2.1.length<N) (hv:qqL s):qav N (s,(f,()))=some ((vFk s f,()),()):=by
 simp only [qav,qO]
 rw [qdr N s f.1 ht hB,qdr N s f.2.2.1 ht hB]
 simp only [qi,qp,cond_true,vFk]
 rcases qfy s f.1 with ⟨h1,h2⟩|⟨i,t,h1,h2,h3,h4⟩
 ·rw [h1,h2]; rfl
 rcases qfy s f.2.2.1 with ⟨g1,g2⟩|⟨k,r,g1,g2,g3,g4⟩
 ·rw [g1,g2,h1,h2]; rfl
 rw [h1,h2,g1,g2]
 simp only [Option.isSome_some,Bool.not_true,Bool.or_self,cond_false,Option.getD_some,qF h3,qF g3,Bool.and_self,cond_true,h4,g4,qid,qaC]
 by_cases hl:f.2.1.length≠r.2.2.1.length
 ·rw [if_pos hl,if_pos hl]
 rw [if_neg hl,if_neg hl]
 have hl:f.2.1.length=r.2.2.1.length:=by omega
 have hr:=hv r (qnI g2)
 refine (qaE (S:=Int×Unit) (fun i=>((i:Int),())) f.2.1.length (fkE t r f.2.1) (fun e=>some ((e,()),())) (some ((0,()),())) rfl (fun j hj _ ih=> ?_) (fun _ ih=> ?_) hf).trans ?_
 ·simp only
  have hjr:j<r.2.2.1.length:=by omega
  have e0:r.2.2.1.getD j 0=r.2.2.1[j]:=by rw [List.getD_eq_getElem?_getD,List.getElem?_eq_getElem hjr]; rfl
  rw [qJ (qbi hj),qJ (qF hj),qM _ hj,q8 (by omega),qF hjr,qM _ hjr]
  simp only [fkE,List.getElem?_eq_getElem hj,e0]
  obtain ⟨q1,q2⟩:=hr _ (List.getElem_mem hjr)
  have e1:ltI (f.2.1[j]) 0=decide (f.2.1[j]<0):=qbx _ _
  have e2:leI (qr t.2.1) (f.2.1[j])=decide ((t.2.1.length:Int)≤f.2.1[j]):=by rw [qf2,qg]
  have e3:inB (f.2.1[j]) (qr t.2.1)=(decide (0≤f.2.1[j])&&decide (f.2.1[j]<(t.2.1.length:Int))):=by rw [qd1,qg]
  have e4:inB (r.2.2.1[j]) (qr r.2.1)=true:=by rw [qfX,qg]; simp [q1,q2]
  rw [e1,e2,e3,e4]
  change (bif _ then _ else (bif _ then (bif neI (qn t.2.1 (f.2.1[j]) qkm).2.1 (qn r.2.1 (r.2.2.1[j]) qkm).2.1 then _ else _) else _))=_
  by_cases h5:f.2.1[j]<0
  ·simp [h5]
  by_cases h6:(t.2.1.length:Int)≤f.2.1[j]
  ·simp [h6]
  have h7:0≤f.2.1[j]:=by omega
  have h8:f.2.1[j]<(t.2.1.length:Int):=by omega
  simp only [h5,h6,h7,h8,decide_false,decide_true,Bool.or_self,Bool.and_self,cond_false,cond_true,or_self,if_false,qaI,←decide_not,qaC]
  split <;> rename_i hq <;> simp [hq]
 ·simp only
  rw [qK (qaK (Nat.lt_irrefl _))]
 ·cases qag (fkE t r f.2.1) f.2.1.length <;> rfl
def qnT (v:qa):Int:=
 if v.1<0∨3<v.1 then 7 else if (v.1≠3∧v.2.2.1≠[])∨((v.1=0∨v.1=3)∧v.2.1≠0) then 3
 else if (v.1=2∧(v.2.1<0∨1<v.2.1))∨1000000000000<v.2.1∨v.2.1< -1000000000000 then 1 else if 24<v.2.2.1.length then 2 else 0
theorem qn1 (N:Nat) (v:qa):qar N (v,())=some ((qnT v,()),()):=by
 obtain ⟨k,n,s,⟨⟩⟩:=v
 simp only [qar,qO,qnT,qbx,qaI,qbJ,qcA,qg]
 simp only [qrr,Bool.or_eq_true,Bool.and_eq_true,decide_eq_true_eq,Bool.not_eq_true',decide_eq_false_iff_not]
 grind
theorem qiO (N:Nat) (v:qa):qaM N (v,())=some ((qnT v,()),()):=by
 obtain ⟨k,n,s,⟨⟩⟩:=v
 simp only [qaM,qO,qnT,qbx,qaI,qbJ,qcA,qg]
 simp only [qrr,Bool.or_eq_true,Bool.and_eq_true,decide_eq_true_eq,Bool.not_eq_true',decide_eq_false_iff_not]
 by_cases k0:k=0
 ·subst k0; grind
 by_cases k1:k=1
 ·subst k1; grind
 by_cases k2:k=2
 ·subst k2; grind
 by_cases k3:k=3
 ·subst k3; grind
 grind
def qrx (o:List UInt8):Bool:=decide (o=[61])||(decide (o=[60])||decide (o=[60,61]))
def qpA (v:qa):Bool:=decide (v.1=0)&&(decide (v.2.1=0)&&decide (v.2.2.1=[]))
def qrg (s:qc) (c:qu):Int:=match qih s c.1 with
 |none=>4
 |some t=>if c.2.1<0∨(t.2.1.length:Int)≤c.2.1∨qrx c.2.2.1=false∨c.2.2.2.1< -1∨(t.2.1.length:Int)≤c.2.2.2.1∨(0≤c.2.2.2.1∧qpA c.2.2.2.2.1=false) then 3
  else if 0≤c.2.2.2.1 then (if (qn t.2.1 c.2.1 qkm).2.1≠(qn t.2.1 c.2.2.2.1 qkm).2.1 then 7 else 0)
  else if c.2.2.2.2.1.1≠(qn t.2.1 c.2.1 qkm).2.1 then 7 else qnT c.2.2.2.2.1
theorem qlV (N:Nat) (o:List UInt8):∃b,qbQ N ((0,(0,(([]:List UInt8),()))),(o,((0,(0,(([]:List UInt8),()))),())))=some ((b,(if qrx o=true then 0 else 3,())),()):=by
 simp only [qbQ,qO,qcA,qbJ,qrx]
 by_cases h1:o=[61]
 ·exact ⟨true,by simp [h1]⟩
 by_cases h2:o=[60]
 ·exact ⟨true,by simp [h2]⟩
 by_cases h3:o=[60,61]
 ·exact ⟨true,by simp [h3]⟩
 ·exact ⟨false,by simp [h1,h2,h3]⟩
theorem qpi (N:Nat) (s:qc) (c:qu) (hB:N≤1099511627776) (ht:s.1.length<N):qaw N (s,(c,()))=some ((qrg s c,()),()):=by
 obtain ⟨b,hb⟩:=qlV N c.2.2.1
 simp only [qaw,qO]
 rw [qdr N s c.1 ht hB,hb,qiO]
 simp only [qi,qp,cond_true,qrg]
 rcases qfy s c.1 with ⟨h1,h2⟩|⟨i,t,h1,h2,h3,h4⟩
 ·rw [h1,h2]; rfl
 rw [h1,h2]
 simp only [Option.isSome_some,Bool.not_true,cond_false,Option.getD_some,qF h3,cond_true,h4]
 obtain ⟨c1,l,o,r,v,⟨⟩⟩:=c
 simp only at *
 have e1:ltI l 0=decide (l<0):=qbx _ _
 have e2:leI (qr t.2.1) l=decide ((t.2.1.length:Int)≤l):=by rw [qf2,qg]
 have e3:neI (if qrx o=true then 0 else 3) 0= !qrx o:=by rw [qaI]; cases qrx o <;> simp
 have e4:ltI r (-1)=decide (r< -1):=qbx _ _
 have e5:leI (qr t.2.1) r=decide ((t.2.1.length:Int)≤r):=by rw [qf2,qg]
 have e6:leI 0 r=decide (0≤r):=qf2 _ _
 have e7:(eqI v.1 0&&(eqI v.2.1 0&&eqS v.2.2.1 []))=qpA v:=by simp only [qbJ,qcA,qpA]
 have e8:inB l (qr t.2.1)=(decide (0≤l)&&decide (l<(t.2.1.length:Int))):=by rw [qd1,qg]
 have e9:inB r (qr t.2.1)=(decide (0≤r)&&decide (r<(t.2.1.length:Int))):=by rw [qd1,qg]
 rw [e1,e2,e3,e4,e5,e6,e7,e8,e9]
 change (bif _ then _ else (bif _ then (bif _ then (bif neI (qn t.2.1 l qkm).2.1 (qn t.2.1 r qkm).2.1 then _ else _) else _) else (bif _ then (bif neI v.1 (qn t.2.1 l qkm).2.1 then _ else _) else _)))=_
 rw [qaI,qaI]
 generalize (qn t.2.1 l qkm).2.1=kl
 generalize (qn t.2.1 r qkm).2.1=kr
 simp only [qrr,Bool.or_eq_true,Bool.and_eq_true,decide_eq_true_eq,Bool.not_eq_true',decide_eq_false_iff_not]
 generalize qnT v=vv
 generalize qpA v=vz
 generalize qrx o=oo
 cases vz <;> cases oo <;> grind
def qpx (ts:List qj) (i:Nat):Option Int:=match ts[i]? with
 |none=>none
 |some t=>if qqG t≠0 then some (qqG t) else if 0<i∧qhI (qn ts ((i:Int) - 1) (([]:List UInt8),(([]:List qe),(([]:List Int),())))).1 t.1=false then some 6 else none
open Classical in
def fkL (s:qc) (i:Nat):Option Int:=match s.2.1[i]? with
 |none=>none
 |some f=>if vFk s f≠0 then some (vFk s f) else if f∈s.2.1.take i then some 5 else none
open Classical in
def qpt (s:qc) (i:Nat):Option Int:=match s.2.2.1[i]? with
 |none=>none
 |some c=>if qrg s c≠0 then some (qrg s c) else if c∈s.2.2.1.take i then some 5 else none
def qpy (s:qc):Int:=if 6<s.1.length∨8<s.2.1.length∨8<s.2.2.1.length then 2 else match qag (qpx s.1) s.1.length with
 |some e=>e
 |none=>match qag (fkL s) s.2.1.length with
  |some e=>e
  |none=>match qag (qpt s) s.2.2.1.length with
   |some e=>e
   |none=>0
theorem qlX {s:qc} (h:qag (qpx s.1) s.1.length=none):qqL s:=fun t ht k hk=>by
 obtain ⟨i,hi,rfl⟩:=List.getElem_of_mem ht
 have:=qbt h i hi
 simp only [qpx,List.getElem?_eq_getElem hi] at this
 split at this
 ·cases this
 rename_i hv
 have hv:qqG s.1[i]=0:=by simpa using hv
 unfold qqG at hv
 split at hv
 ·cases hv
 split at hv
 ·cases hv
 split at hv
 ·cases hv
 split at hv
 ·rename_i e he
  obtain ⟨j,h1,h2,_⟩:=qcC he
  simp only [colE,List.getElem?_eq_getElem h1] at h2
  subst hv
  split at h2
  ·cases h2
  split at h2
  ·cases h2
  split at h2 <;> cases h2
 split at hv
 ·rename_i e he
  obtain ⟨j,h1,h2,_⟩:=qcC he
  simp only [pkE,List.getElem?_eq_getElem h1] at h2
  subst hv
  split at h2 <;> cases h2
 rename_i hpk
 obtain ⟨j,hj,rfl⟩:=List.getElem_of_mem hk
 have:=qbt hpk j hj
 simp only [pkE,List.getElem?_eq_getElem hj] at this
 split at this
 ·cases this
 ·rename_i hc
  simp only [not_or] at hc
  omega
structure qc6 (N:Nat) (s:qc):Prop where
 sm:Small N s
 m:100<N
theorem qc6.tab {N:Nat} {s:qc} (h:qc6 N s) {t:qj} (ht:t∈s.1):qjW N t:=
 ⟨h.sm.n,h.m,h.sm.tn t ht,h.sm.tc t ht,h.sm.tk t ht,h.sm.cn t ht⟩
theorem gt3 (s:qc):((ltI 6 (qr s.1)||ltI 8 (qr s.2.1))||ltI 8 (qr s.2.2.1))=decide (6<s.1.length∨8<s.2.1.length∨8<s.2.2.1.length):=by
 rw [show ltI 6 (qr s.1)=decide (6<s.1.length) from qj5 _ 6,show ltI 8 (qr s.2.1)=decide (8<s.2.1.length) from qj5 _ 8,show ltI 8 (qr s.2.2.1)=decide (8<s.2.2.1.length) from qj5 _ 8,←Bool.decide_or,←Bool.decide_or]
 exact decide_eq_decide.2 or_assoc
theorem qo3 (N:Nat) (xs:List qu) (c:qu) (hN:xs.length<N) (hb:xs.length≤1099511627776):qao N (xs,(c,()))=some ((qhO (fun x=>decide (c=x)) xs,()),()):=by
 simp only [qao]
 refine (qaE (S:=Int×Unit) (fun i=>((i:Int),())) xs.length (atE (fun x=>decide (c=x)) xs) (fun i=>some (((i:Int),()),())) (some ((-1,()),())) rfl (fun i hi _ ih=> ?_) (fun _ ih=> ?_) hN).trans ?_
 ·simp only
  rw [qJ (qbi hi),qJ (qF hi),qM _ hi,q8 (by omega)]
  simp only [atE,List.getElem?_eq_getElem hi]
  generalize xs[i]=x
  obtain ⟨a1,a2,a3,a4,⟨a5,a6,a7,⟨⟩⟩,⟨⟩⟩:=c
  obtain ⟨b1,b2,b3,b4,⟨b5,b6,b7,⟨⟩⟩,⟨⟩⟩:=x
  simp only [qcA,qbJ,Prod.mk.injEq,and_true,←Bool.decide_and,qaC,decide_eq_true_eq]
  split <;> rename_i hq <;> simp [hq]
 ·simp only
  rw [qK (qaK (Nat.lt_irrefl _))]
 ·rw [qhO,qhz]
  cases qag (atE (fun x=>decide (c=x)) xs) xs.length <;> rfl
theorem qlc (N:Nat) (xs:List qu) (c:qu) (hN:xs.length<N) (hb:xs.length≤1099511627776):qac N (xs,(c,()))=some ((decide (c∈xs),()),()):=by
 simp only [qac,qo3 N xs c hN hb,qi,qp,cond_true,qkG,qm9]
 congr 3
 rw [Bool.eq_iff_iff]
 simp
theorem qms (N:Nat) (xs:List qs) (f:qs) (hN:xs.length<N) (hB:N≤1099511627776) (hc:∀x∈xs,x.2.1.length<N):
  qS N (xs,((fun x6=>(qgx (fun y7=>(y7.1.1,())) (qaQ N (x6.1,(f,()))))),()))=some ((decide (f∈xs),()),()):=by
 simp only [qS]
 have h:=qdi (fun x6=>(qgx (fun y7:((Bool×Unit)×Unit)=>(y7.1.1,())) (qaQ N (x6.1,(f,()))))) (fun x=>decide (x=f)) xs (fun a ha=>by simp only [qaQ,qnJ N a f (hc a ha) hB,qi,qp,cond_true,qei,Option.map_some]) (([]:List UInt8),(([]:List Int),(([]:List UInt8),()))) N hN (by omega)
 rw [show qaq N (xs,((fun x6=>(qgx (fun y7=>(y7.1.1,())) (qaQ N (x6.1,(f,()))))),()))=some ((qhO (fun x=>decide (x=f)) xs,()),()) from h]
 simp only [qi,qp,cond_true,qkG,qm9]
 congr 3
 rw [Bool.eq_iff_iff]
 simp
theorem qoE (N:Nat) (s:qc) (h:qc6 N s):qbN N (s,())=some ((qpy s,()),()):=by
 have hn:=h.sm.n
 have ht:=h.sm.t
 have hf:=h.sm.f
 have hc:=h.sm.c
 simp only [qbN,qO,gt3,qaC]
 unfold qpy
 by_cases h0:6<s.1.length∨8<s.2.1.length∨8<s.2.2.1.length
 ·rw [if_pos h0,if_pos h0]
 rw [if_neg h0,if_neg h0]
 refine (qaE (S:=Int×Unit) (fun i=>((i:Int),())) s.1.length (qpx s.1) (fun e=>some ((e,()),())) (some ((match qag (fkL s) s.2.1.length with
  |some e=>e
  |none=>match qag (qpt s) s.2.2.1.length with
   |some e=>e
   |none=>0,()),())) rfl (fun i hi _ ih=> ?_) (fun hk ih=> ?_) ht).trans ?_
 ·simp only
  rw [qJ (qbi hi),qJ (qF hi),qM _ hi,qmF N _ (h.tab (List.getElem_mem hi)),q8 (by omega)]
  simp only [qi,qp,cond_true,qpx,List.getElem?_eq_getElem hi,qaI,←decide_not,qaC]
  by_cases h1:qqG s.1[i]=0
  ·have e4:ltI 0 (i:Int)=decide (0<i):=by rw [qbx]; exact decide_eq_decide.2 (by omega)
   rw [if_neg (by simp [h1]),if_neg (by simp [h1]),e4]
   by_cases h8:0<i
   ·have e5:qbr .i64 (i:Int) 1=(i:Int) - 1:=qbW (by omega) (by omega)
    have e6:inB ((i:Int) - 1) (qr s.1)=true:=by rw [qfX,qg]; simp; omega
    rw [e5,e6,qmt]
    cases qhI (qn s.1 ((i:Int) - 1) (([]:List UInt8),(([]:List qe),(([]:List Int),())))).1 (s.1[i]).1 <;> simp [h8]
   ·simp [h8]
  ·rw [if_pos h1,if_pos h1]
 ·simp only
  have hv:=qlX hk
  rw [qK (qaK (Nat.lt_irrefl _))]
  refine (qaE (S:=Int×Unit) (fun i=>((i:Int),())) s.2.1.length (fkL s) (fun e=>some ((e,()),())) (some ((match qag (qpt s) s.2.2.1.length with
   |some e=>e
   |none=>0,()),())) rfl (fun i hi _ ih=> ?_) (fun _ ih=> ?_) hf).trans ?_
  ·simp only
   rw [qJ (qbi hi),qJ (qF hi),qM _ hi,qpC N s _ hn ht (h.sm.fc _ (List.getElem_mem hi)) hv,q8 (by omega),qku,qms N (s.2.1.take i) _ (by rw [List.length_take]; omega) hn (fun x hx=>h.sm.fc x (List.mem_of_mem_take hx))]
   have e5:inS 0 (i:Int) (qr s.2.1)=true:=by rw [qjr,qg]; simp; omega
   simp only [qi,qp,cond_true,fkL,List.getElem?_eq_getElem hi,qaI,←decide_not,qaC,e5,Bool.and_self]
   by_cases h1:vFk s s.2.1[i]=0
   ·simp only [h1,ne_eq,not_true_eq_false,if_false]
    by_cases h2:s.2.1[i]∈s.2.1.take i
    ·rw [if_pos h2,if_pos h2]
    ·rw [if_neg h2,if_neg h2]
   ·rw [if_pos h1,if_pos h1]
  ·simp only
   rw [qK (qaK (Nat.lt_irrefl _))]
   refine (qaE (S:=Int×Unit) (fun i=>((i:Int),())) s.2.2.1.length (qpt s) (fun e=>some ((e,()),())) (some ((0,()),())) rfl (fun i hi _ ih=> ?_) (fun _ ih=> ?_) hc).trans ?_
   ·simp only
    rw [qJ (qbi hi),qJ (qF hi),qM _ hi,qpi N s _ hn ht,q8 (by omega),qku,qlc N (s.2.2.1.take i) _ (by rw [List.length_take]; omega) (by rw [List.length_take]; omega)]
    have e5:inS 0 (i:Int) (qr s.2.2.1)=true:=by rw [qjr,qg]; simp; omega
    simp only [qi,qp,cond_true,qpt,List.getElem?_eq_getElem hi,qaI,←decide_not,qaC,e5,Bool.and_self]
    by_cases h1:qrg s s.2.2.1[i]=0
    ·simp only [h1,ne_eq,not_true_eq_false,if_false]
     by_cases h2:s.2.2.1[i]∈s.2.2.1.take i
     ·rw [if_pos h2,if_pos h2]
     ·rw [if_neg h2,if_neg h2]
    ·rw [if_pos h1,if_pos h1]
   ·simp only
    rw [qK (qaK (Nat.lt_irrefl _))]
   ·cases qag (qpt s) s.2.2.1.length <;> rfl
  ·cases qag (fkL s) s.2.1.length <;> rfl
 ·cases qag (qpx s.1) s.1.length <;> rfl
end
end Go.Proofs.Ytpdhkfofjpankaa
namespace Go.Proofs.Ytpdhkfofjpankaa
open Go.Vi
noncomputable section
theorem qgr (N:Nat) (x y:Int):qak N (x,(y,()))=some ((ic x y,()),()):=by
 simp only [qak,qO,qa2,condO,decide_eq_true_eq,ic]
 split
 ·rfl
 ·split <;> rfl
theorem qns (N:Nat) (a b:List UInt8):qbR N (a,(b,()))=some ((Lib.compareBytes a b,()),()):=by
 simp only [qbR,qau,qO,qi,qp,cond_true]
theorem qny (N:Nat) (a b:qa):qbv N (a,(b,()))=some ((vc a b,()),()):=by
 simp only [qbv,qO,qgr,qns,qi,qp,cond_true,qaI,condO,Bool.not_eq_true',decide_eq_false_iff_not,vc]
 split
 ·rfl
 ·split <;> rfl
theorem qro (N:Nat) (a b:qa):qaD N (a,(b,()))=some ((decide (vc a b<0),()),()):=by
 simp only [qaD,qO,qaI,qa2,qiC]
 have h1:=qbe a.1 b.1
 have h2:=qbe a.2.1 b.2.1
 by_cases e1:a.1=b.1
 ·have f1:ic a.1 b.1=0:=by omega
  by_cases e2:a.2.1=b.2.1
  ·have f2:ic a.2.1 b.2.1=0:=by omega
   have:vc a b=Lib.compareBytes a.2.2.1 b.2.2.1:=by simp [vc,f1,f2]
   simp [e1,e2,this]
  ·have f2:ic a.2.1 b.2.1≠0:=by omega
   have h3:vc a b=ic a.2.1 b.2.1:=by simp [vc,f1,f2]
   have h4:a.2.1<b.2.1↔vc a b<0:=by omega
   simp [e1,e2,h4]
 ·have f1:ic a.1 b.1≠0:=by omega
  have h3:vc a b=ic a.1 b.1:=by simp [vc,f1]
  have h4:a.1<b.1↔vc a b<0:=by omega
  simp [e1,h4]
theorem qer (N:Nat) (xs ys:qb3) (hN:xs.length<N) (hB:N≤1099511627776):qU N (xs,(ys,()))=some ((qaX xs ys,()),()):=by
 simp only [qU,qO,qgr,qny,qi,qp,cond_true,Bool.and_true]
 refine qf9 (S:=Int×Unit) (R:=(Int×Unit)×Unit) (fun p=>xs.length - p.1.toNat) (fun p=>∃i:Nat,p.1=(i:Int)∧i≤xs.length∧i≤ys.length∧qaX (xs.drop i) (ys.drop i)=qaX xs ys) (fun _=>((qaX xs ys,()),())) ?_ N _ ⟨0,rfl,Nat.zero_le _,Nat.zero_le _,rfl⟩ (by simp; omega)
 rintro ih ⟨_,_⟩ ⟨i,rfl,hx,hy,he⟩ hih
 simp only [Int.toNat_natCast] at hih⊢
 by_cases h:i<xs.length∧i<ys.length
 ·obtain ⟨h1,h2⟩:=h
  rw [qJ (by rw [qa2,qiw,qg,qg]; simp; omega),qF h1,qF h2,qM _ h1,qM _ h2]
  simp only [Bool.and_self,cond_true]
  rw [List.drop_eq_getElem_cons h1,List.drop_eq_getElem_cons h2,qaX] at he
  by_cases hv:vc xs[i] ys[i]=0
  ·rw [if_neg (fun h=>h hv)] at he
   rw [qK (by rw [qaI,hv]; rfl),q8 (by omega)]
   exact hih _ ⟨i+1,rfl,h1,h2,he⟩ (by simp only [Int.toNat_natCast]; omega)
  ·rw [if_pos hv] at he
   rw [qJ (by rw [qaI]; simp [hv]),he]
 ·rw [qK (by rw [qa2,qiw,qg,qg]; simp; omega)]
  rw [qko xs ys i h hx hy] at he
  rw [qg,qg,he]
theorem qfP (N:Nat) (xs ys:qb3) (hN:xs.length<N) (hB:N≤1099511627776):qV N (xs,(ys,()))=some ((qaX xs ys,()),()):=by
 simp only [qV,qO,qro,qi,qp,cond_true,Bool.and_true]
 refine qf9 (S:=Int×Unit) (R:=(Int×Unit)×Unit) (fun p=>xs.length - p.1.toNat) (fun p=>∃i:Nat,p.1=(i:Int)∧i≤xs.length∧i≤ys.length∧qaX (xs.drop i) (ys.drop i)=qaX xs ys) (fun _=>((qaX xs ys,()),())) ?_ N _ ⟨0,rfl,Nat.zero_le _,Nat.zero_le _,rfl⟩ (by simp; omega)
 rintro ih ⟨_,_⟩ ⟨i,rfl,hx,hy,he⟩ hih
 simp only [Int.toNat_natCast] at hih⊢
 by_cases h:i<xs.length∧i<ys.length
 ·obtain ⟨h1,h2⟩:=h
  rw [qbi h1,qbi h2,qF h1,qF h2,qM _ h1,qM _ h2]
  simp only [Bool.and_self,cond_true]
  rw [List.drop_eq_getElem_cons h1,List.drop_eq_getElem_cons h2,qaX] at he
  have hs:=qrl xs[i] ys[i]
  rcases qm4 xs[i] ys[i] with hv|hv|hv
  ·rw [if_pos (by omega)] at he
   rw [qJ (by rw [hv]; rfl),←he,hv]
  ·rw [if_neg (fun h=>h hv)] at he
   rw [qK (by rw [hv]; rfl),qK (by rw [hs,hv]; rfl),q8 (by omega)]
   exact hih _ ⟨i+1,rfl,h1,h2,he⟩ (by simp only [Int.toNat_natCast]; omega)
  ·rw [if_pos (by omega)] at he
   rw [qK (by rw [hv]; rfl),qJ (by rw [hs,hv]; rfl),←he,hv]
 ·rw [qK (by
   rw [qa2,qa2,qg,qg]
   simp only [Bool.and_eq_false_iff,decide_eq_false_iff_not]
   omega)]
  rw [qko xs ys i h hx hy] at he
  rw [qg,qg,←he]
  have:=qbe (xs.length:Int) (ys.length:Int)
  rcases this with ⟨h1,h2⟩|⟨h1,h2⟩|⟨h1,h2⟩
  ·rw [qJ (by rw [qa2]; simp; omega),h2]
  ·rw [qK (by rw [qa2]; simp; omega),qK (by rw [qa2]; simp; omega),h2]
  ·rw [qK (by rw [qa2]; simp; omega),qJ (by rw [qa2]; simp; omega),h2]
theorem qoU (N:Nat) (pk:List Int) (row:qb3) (hN:pk.length<N) (hb:pk.length≤1099511627776):
  qay (S:=((List qa)×(Int×Unit))) (R:=(((List qa)×Unit)×Unit)) N (fun ih0=>(fun p1=>(bif (ltI p1.2.1 (qr pk)) then (bif (inB p1.2.1 (qr pk)) then (qaR ((leI 0 (qn pk p1.2.1 0))&&(ltI (qn pk p1.2.1 0) (qr row))) (fun y2=>(bif (bif y2 then (inB (qn pk p1.2.1 0) (qr row)) else true) then (qaR (bif y2 then (qn row (qn pk p1.2.1 0) (0,(0,(([]:List UInt8),())))) else (0,(0,(([]:List UInt8),())))) (fun y3=>(bif (qd8 (qr p1.1) (qr ([y3]:List qa)) 32) then (ih0 ((qdF p1.1 ([y3]:List qa)),((qbf .i64 p1.2.1 1),()))) else none))) else none))) else none) else (some ((p1.1,()),()))))) (([]:List qa),(0,()))=some ((qdj pk row,()),()):=by
 simp only [qO]
 refine qhn (S:=((List qa)×(Int×Unit))) (fun i=>(qdj (pk.take i) row,((i:Int),()))) pk.length _ (by simp [qdj]) (fun i hi ih=> ?_) (fun ih=> ?_) hN
 ·have e1:qdj (pk.take (i+1)) row=qdj (pk.take i) row++[qpK row pk[i]]:=by unfold qdj; rw [qbw hi,List.map_append]; rfl
  have e2:(bif (leI 0 pk[i]&&ltI pk[i] (qr row)) then qn row pk[i] (0,(0,(([]:List UInt8),()))) else (0,(0,(([]:List UInt8),()))))=qpK row pk[i]:=by
   unfold qpK
   by_cases h:0≤pk[i]∧pk[i]<(row.length:Int)
   ·rw [dif_pos h,qJ (by rw [qb2,qa2,qg]; simp; exact h)]
    obtain ⟨k,hk⟩:∃k:Nat,pk[i]=(k:Int):=⟨pk[i].toNat,by omega⟩
    have hk':k<row.length:=by omega
    simp only [hk,Int.toNat_natCast]
    exact qM _ hk'
   ·rw [dif_neg h,qK (by rw [qb2,qa2,qg]; simp; omega)]
  have e3:(bif (leI 0 pk[i]&&ltI pk[i] (qr row)) then inB pk[i] (qr row) else true)=true:=by
   cases hc:(leI 0 pk[i]&&ltI pk[i] (qr row)) with
   |false=>rfl
   |true=>
    rw [qb2,qa2,qg] at hc
    rw [cond_true,qd1,qg]
    simpa using hc
  simp only
  rw [qJ (qbi hi),qF hi,cond_true,qM _ hi,e3,cond_true,e2,qJ (qe5 (by rw [qgb,List.length_take]; simp; omega)),q8 (by omega),qbA,e1]
 ·simp only
  rw [qK (qaK (Nat.lt_irrefl _)),List.take_length]
theorem qmV (N:Nat) (t:qj) (row:qb3) (hN:t.2.2.1.length<N) (hB:N≤1099511627776):qH N (t,(row,()))=some ((qdj t.2.2.1 row,()),()):=qoU N t.2.2.1 row hN (by omega)
theorem qmS (N:Nat) (t:qj) (row:qb3) (hN:t.2.2.1.length<N) (hB:N≤1099511627776):qam N (t,(row,()))=some ((qdj t.2.2.1 row,()),()):=by
 have h:qb9 N (row,(t.2.2.1,()))=some ((qdj t.2.2.1 row,()),()):=qoU N t.2.2.1 row hN (by omega)
 simp only [qam,h,qi,qp,cond_true]
theorem qof (N:Nat) (xs:qb3) (h:xs.length≤1099511627776):qaT N (xs,())=some ((xs,()),()):=qpg xs 32 (by omega)
theorem qmH (N:Nat) (rows:List qb3) (hN:rows.length<N) (hB:N≤1099511627776) (hr:∀r∈rows,r.length≤1099511627776):qbD N (rows,())=some ((rows,()),()):=by
 simp only [qbD]
 refine qhn (S:=((List qb3)×(Int×Unit))) (fun i=>(rows.take i,((i:Int),()))) rows.length _ (by simp) (fun i hi ih=> ?_) (fun ih=> ?_) hN
 ·simp only
  rw [qJ (qbi hi),qF hi,cond_true,qM _ hi,qof N _ (hr _ (List.getElem_mem hi))]
  simp only [qi,qp,Bool.true_and]
  rw [qJ (qe5 (by rw [List.length_take]; simp; omega)),q8 (by omega),qbA,qbw hi]
 ·simp only
  rw [qK (qaK (Nat.lt_irrefl _)),List.take_length]
end
end Go.Proofs.Ytpdhkfofjpankaa
namespace Go.Proofs.Ytpdhkfofjpankaa
open Go.Vi
noncomputable section
theorem qeX {g:Nat→Option Int} {n:Nat} (h:∀i e,g i=some e→e≠0) {z:Int} (hz:(match qag g n with
  |some e=>e
  |none=>z)=0):qag g n=none∧z=0:=by
 cases hf:qag g n with
 |none=>rw [hf] at hz; exact ⟨rfl,hz⟩
 |some e=>
  rw [hf] at hz
  obtain ⟨i,_,h2,_⟩:=qcC hf
  exact absurd hz (h i e h2)
theorem qoW (ts:List qj):∀i e,qpx ts i=some e→e≠0:=fun i e h=>by
 unfold qpx at h
 split at h
 ·cases h
 split at h
 ·rename_i hv; injection h with h; subst h; exact hv
 split at h
 ·injection h with h; subst h; decide
 ·cases h
theorem qpF (s:qc):∀i e,fkL s i=some e→e≠0:=fun i e h=>by
 unfold fkL at h
 split at h
 ·cases h
 split at h
 ·rename_i hv; injection h with h; subst h; exact hv
 split at h
 ·injection h with h; subst h; decide
 ·cases h
theorem qok (s:qc):∀i e,qpt s i=some e→e≠0:=fun i e h=>by
 unfold qpt at h
 split at h
 ·cases h
 split at h
 ·rename_i hv; injection h with h; subst h; exact hv
 split at h
 ·injection h with h; subst h; decide
 ·cases h
structure Valid (s:qc):Prop where
 tabs:qag (qpx s.1) s.1.length=none
 few:s.1.length≤6
 fks:∀f∈s.2.1,vFk s f=0
 cons:∀c∈s.2.2.1,qrg s c=0
theorem qpU {s:qc} (h:qpy s=0):Valid s:=by
 unfold qpy at h
 split at h
 ·cases h
 rename_i h0
 obtain ⟨h1,h⟩:=qeX (qoW s.1) h
 obtain ⟨h2,h⟩:=qeX (qpF s) h
 obtain ⟨h3,_⟩:=qeX (qok s) h
 refine ⟨h1,by omega,fun f hf=> ?_,fun c hc=> ?_⟩
 ·obtain ⟨i,hi,rfl⟩:=List.getElem_of_mem hf
  have:=qbt h2 i hi
  simp only [fkL,List.getElem?_eq_getElem hi] at this
  split at this
  ·cases this
  ·rename_i hv; simpa using hv
 ·obtain ⟨i,hi,rfl⟩:=List.getElem_of_mem hc
  have:=qbt h3 i hi
  simp only [qpt,List.getElem?_eq_getElem hi] at this
  split at this
  ·cases this
  ·rename_i hv; simpa using hv
abbrev qch:Type:=List UInt8×(List qb3×Unit)
def qlE (t:qj) (row:qb3) (i:Nat):Option Int:=match row[i]? with
 |none=>none
 |some v=>if qnT v≠0 then some (qnT v) else if v.1=0∧(qn t.2.1 (i:Int) qkm).2.2.1=false then some 8 else if v.1≠0∧v.1≠(qn t.2.1 (i:Int) qkm).2.1 then some 7 else none
def qoK (t:qj) (row:qb3):Int:=if row.length≠t.2.1.length then 3 else match qag (qlE t row) row.length with
 |some e=>e
 |none=>0
theorem qpr (N:Nat) (t:qj) (row:qb3) (hN:row.length<N) (hB:N≤1099511627776):qa7 N (t,(row,()))=some ((qoK t row,()),()):=by
 simp only [qa7,qO,qid,qaC]
 unfold qoK
 by_cases h0:row.length≠t.2.1.length
 ·rw [if_pos h0,if_pos h0]
 rw [if_neg h0,if_neg h0]
 have hl:row.length=t.2.1.length:=by omega
 refine (qaE (S:=Int×Unit) (fun i=>((i:Int),())) row.length (qlE t row) (fun e=>some ((e,()),())) (some ((0,()),())) rfl (fun i hi _ ih=> ?_) (fun _ ih=> ?_) hN).trans ?_
 ·simp only
  have hit:i<t.2.1.length:=by omega
  rw [qJ (qbi hi),qJ (qF hi),qM _ hi,qiO,q8 (by omega),qF hit]
  simp only [qi,qp,cond_true,qlE,List.getElem?_eq_getElem hi,qM _ hit,qaI,qbJ,←decide_not,Bool.or_true]
  generalize qnT row[i]=vv
  generalize (t.2.1[i]).2.2.1=nb
  generalize (t.2.1[i]).2.1=ck
  generalize (row[i]).1=rk
  by_cases q1:vv=0 <;> by_cases q2:rk=0 <;> by_cases q3:rk=ck <;> cases nb <;> first|(simp [q1,q2,q3]; done)|(subst q3; simp [q1,q2])
 ·simp only
  rw [qK (qaK (Nat.lt_irrefl _))]
 ·cases qag (qlE t row) row.length <;> rfl
theorem qoF (N:Nat) (t:qj) (row:qb3) (hN:row.length<N) (hB:N≤1099511627776):qa6 N (t,(row,()))=some ((qoK t row,()),()):=by
 simp only [qa6,qO,qid,qaC]
 unfold qoK
 by_cases h0:row.length≠t.2.1.length
 ·rw [if_pos h0,if_pos h0]
 rw [if_neg h0,if_neg h0]
 have hl:row.length=t.2.1.length:=by omega
 refine (qaE (S:=Int×Unit) (fun i=>((i:Int),())) row.length (qlE t row) (fun e=>some ((e,()),())) (some ((0,()),())) rfl (fun i hi _ ih=> ?_) (fun _ ih=> ?_) hN).trans ?_
 ·simp only
  have hit:i<t.2.1.length:=by omega
  rw [qJ (qbi hi),qJ (qF hi),qM _ hi,qn1,q8 (by omega),qF hit]
  simp only [qi,qp,cond_true,qlE,List.getElem?_eq_getElem hi,qM _ hit,qaI,qbJ,←decide_not,Bool.or_true]
  generalize qnT row[i]=vv
  generalize (t.2.1[i]).2.2.1=nb
  generalize (t.2.1[i]).2.1=ck
  generalize (row[i]).1=rk
  by_cases q1:vv=0 <;> by_cases q2:rk=0 <;> by_cases q3:rk=ck <;> cases nb <;> first|(simp [q1,q2,q3]; done)|(subst q3; simp [q1,q2])
 ·simp only
  rw [qK (qaK (Nat.lt_irrefl _))]
 ·cases qag (qlE t row) row.length <;> rfl
abbrev qnW:qch:=(([]:List UInt8),(([]:List qb3),()))
abbrev qn9:qj:=(([]:List UInt8),(([]:List qe),(([]:List Int),())))
def qiS (t:qj) (rows:List qb3) (i:Nat):Option Int:=match rows[i]? with
 |none=>none
 |some row=>if qoK t row≠0 then some (qoK t row) else if 0<i∧qaX (qdj t.2.2.1 (qn rows ((i:Int) - 1) [])) (qdj t.2.2.1 row)=0 then some 9 else if 0<i∧0<qaX (qdj t.2.2.1 (qn rows ((i:Int) - 1) [])) (qdj t.2.2.1 row) then some 6 else none
def qpq (ts:List qj) (rels:List qch) (i:Nat):Option Int:=match rels[i]? with
 |none=>none
 |some r=>if r.1≠(qn ts (i:Int) qn9).1 then some 3 else if 24<r.2.1.length then some 2 else qag (qiS (qn ts (i:Int) qn9) r.2.1) r.2.1.length
def qcK (s:qc) (rels:List qch):Int:=if rels.length≠s.1.length then 3 else match qag (qpq s.1 rels) rels.length with
 |some e=>e
 |none=>0
structure qdK (N:Nat) (rels:List qch):Prop where
 n:rels.length<N
 rows:∀r∈rels,r.2.1.length<N
 row:∀r∈rels,∀x∈r.2.1,x.length<N
 enc:∀r∈rels,∀x∈r.2.1,(encR x).length≤1099511627776
theorem qqO {α:Type} (xs:List α):ltI 24 (qr xs)=decide (24<xs.length):=qj5 xs 24
theorem qhe:(a b:qb3)→qaX a b= -1∨qaX a b=0∨qaX a b=1
 |[],ys=>by have:=qbe 0 (ys.length:Int); simp only [qaX]; omega
 |_::xs,[]=>by have:=qbe ((xs.length:Int)+1) 0; simp only [qaX]; omega
 |x::xs,y::ys=>by
  have h1:=qm4 x y
  have h2:=qhe xs ys
  simp only [qaX]
  split <;> assumption
theorem qge (N:Nat) (s:qc) (rels:List qch) (hs:qc6 N s) (hr:qdK N rels):qah N (s,(rels,()))=some ((qcK s rels,()),()):=by
 have hn:=hs.sm.n
 have hrn:=hr.n
 simp only [qah,qO,qid,qaC]
 unfold qcK
 by_cases h0:rels.length≠s.1.length
 ·rw [if_pos h0,if_pos h0]
 rw [if_neg h0,if_neg h0]
 have hl:rels.length=s.1.length:=by omega
 refine (qaE (S:=Int×Unit) (fun i=>((i:Int),())) rels.length (qpq s.1 rels) (fun e=>some ((e,()),())) (some ((0,()),())) rfl (fun i hi _ ih=> ?_) (fun _ ih=> ?_) hr.n).trans ?_
 ·have hit:i<s.1.length:=by omega
  have hm:=List.getElem_mem hi
  have ht:qjW N s.1[i]:=hs.tab (List.getElem_mem hit)
  have hrows:=hr.rows _ hm
  have hrow:=hr.row _ hm
  simp only [qM _ hi,qM _ hit,qbi hi,qF hi,qF hit,cond_true,qpq,List.getElem?_eq_getElem hi,q8 (show i<4611686018427387904 by omega)]
  generalize hrel:rels[i]=rel at *
  generalize htab:s.1[i]=t at *
  simp only [qcA,←decide_not,qaC,qqO]
  by_cases h1:rel.1=t.1
  ·have h1':¬(rel.1≠t.1):=fun h=>h h1
   rw [if_neg h1']; try rw [if_neg h1']
   by_cases h2:24<rel.2.1.length
   ·rw [if_pos h2]; try rw [if_pos h2]
   rw [if_neg h2]; try rw [if_neg h2]
   refine qaE (S:=Int×Unit) (fun k=>((k:Int),())) rel.2.1.length (qiS t rel.2.1) (fun e=>some ((e,()),())) _ rfl (fun k hk _ ih2=> ?_) (fun _ ih2=> ?_) hrows
   ·have hrk:=hrow _ (List.getElem_mem hk)
    have hcmp:∀a b:qb3,qU N (qdj t.2.2.1 a,(qdj t.2.2.1 b,()))=some ((qaX (qdj t.2.2.1 a) (qdj t.2.2.1 b),()),()):=fun a b=>qer N _ _ (by rw [qgb]; exact ht.k) hn
    simp only [qM _ hk,qbi hk,qF hk,cond_true,qpr N t _ hrk hn,qi,qp,qaI,qbJ,qbx,qmV N t _ ht.k hn,hcmp,q8 (show k<4611686018427387904 by omega),qiS,List.getElem?_eq_getElem hk,qaC,Bool.and_true]
    by_cases h3:qoK t rel.2.1[k]=0
    ·simp only [h3,decide_true,Bool.not_true,cond_false,ne_eq,not_true_eq_false,if_false]
     by_cases h8:0<k
     ·have e5:qbr .i64 (k:Int) 1=(k:Int) - 1:=qbW (by omega) (by omega)
      have e6:inB ((k:Int) - 1) (qr rel.2.1)=true:=by rw [qfX,qg]; simp; omega
      rw [e5,e6,if_neg (by omega),cond_true]
      have c:=qhe (qdj t.2.2.1 (qn rel.2.1 ((k:Int) - 1) [])) (qdj t.2.2.1 rel.2.1[k])
      generalize qaX (qdj t.2.2.1 (qn rel.2.1 ((k:Int) - 1) [])) (qdj t.2.2.1 rel.2.1[k])=cc at *
      by_cases c0:cc=0
      ·simp [c0,h8]
      ·by_cases c1:0<cc
       ·simp [c0,c1,h8]
       ·simp [c0,c1,h8]
     ·rw [if_pos (by omega)]
      simp [h8]
    ·simp only [h3,decide_false,Bool.not_false,cond_true,ne_eq,not_false_eq_true,if_true]
   ·simp only
    rw [qK (qaK (Nat.lt_irrefl _))]
  ·rw [if_pos h1]; try rw [if_pos h1]
 ·simp only
  rw [qK (qaK (Nat.lt_irrefl _))]
 ·cases qag (qpq s.1 rels) rels.length <;> rfl
theorem qhE (N:Nat) (s:qc) (rels:List qch) (hs:qc6 N s) (hr:qdK N rels):qaP N (s,(rels,()))=some ((qcK s rels,()),()):=by
 have hn:=hs.sm.n
 have hrn:=hr.n
 simp only [qaP,qO,qid,qaC]
 unfold qcK
 by_cases h0:rels.length≠s.1.length
 ·rw [if_pos h0,if_pos h0]
 rw [if_neg h0,if_neg h0]
 have hl:s.1.length=rels.length:=by omega
 rw [←hl]
 refine (qaE (S:=Int×Unit) (fun i=>((i:Int),())) s.1.length (qpq s.1 rels) (fun e=>some ((e,()),())) (some ((0,()),())) rfl (fun i hit _ ih=> ?_) (fun _ ih=> ?_) hs.sm.t).trans ?_
 ·have hi:i<rels.length:=by omega
  have hm:=List.getElem_mem hi
  have ht:qjW N s.1[i]:=hs.tab (List.getElem_mem hit)
  have hrows:=hr.rows _ hm
  have hrow:=hr.row _ hm
  simp only [qM _ hi,qM _ hit,qbi hit,qF hi,qF hit,cond_true,qpq,List.getElem?_eq_getElem hi,q8 (show i<4611686018427387904 by omega)]
  generalize hrel:rels[i]=rel at *
  generalize htab:s.1[i]=t at *
  simp only [qcA,←decide_not,qaC,qqO]
  by_cases h1:rel.1=t.1
  ·have h1':¬(rel.1≠t.1):=fun h=>h h1
   rw [if_neg h1']; try rw [if_neg h1']
   by_cases h2:24<rel.2.1.length
   ·rw [if_pos h2]; try rw [if_pos h2]
   rw [if_neg h2]; try rw [if_neg h2]
   refine qaE (S:=qb3×(Int×Unit)) (fun k=>((if 0<k then qdj t.2.2.1 (qn rel.2.1 ((k:Int) - 1) []) else []),((k:Int),()))) rel.2.1.length (qiS t rel.2.1) (fun e=>some ((e,()),())) _ rfl (fun k hk _ ih2=> ?_) (fun _ ih2=> ?_) hrows
   ·have hrk:=hrow _ (List.getElem_mem hk)
    have hnx:(if 0<k+1 then qdj t.2.2.1 (qn rel.2.1 (((k+1:Nat):Int) - 1) []) else [])=qdj t.2.2.1 rel.2.1[k]:=by
     rw [if_pos (by omega),show ((k+1:Nat):Int) - 1=(k:Int) by omega,qM _ hk]
    rw [hnx]
    simp only [qM _ hk,qbi hk,qF hk,cond_true,qoF N t _ hrk hn,qi,qp,qaI,qbJ,qbx,qmS N t _ ht.k hn,q8 (show k<4611686018427387904 by omega),qiS,List.getElem?_eq_getElem hk,qaC,Bool.and_true]
    by_cases h3:qoK t rel.2.1[k]=0
    ·simp only [h3,decide_true,Bool.not_true,cond_false,ne_eq,not_true_eq_false,if_false]
     by_cases h8:0<k
     ·rw [if_pos h8,if_pos (show (0:Int)<(k:Int) by omega)]
      have hcmp:∀a b:qb3,qV N (qdj t.2.2.1 a,(qdj t.2.2.1 b,()))=some ((qaX (qdj t.2.2.1 a) (qdj t.2.2.1 b),()),()):=fun a b=>qfP N _ _ (by rw [qgb]; exact ht.k) hn
      simp only [hcmp,qi,qp,cond_true]
      have c:=qhe (qdj t.2.2.1 (qn rel.2.1 ((k:Int) - 1) [])) (qdj t.2.2.1 rel.2.1[k])
      generalize qaX (qdj t.2.2.1 (qn rel.2.1 ((k:Int) - 1) [])) (qdj t.2.2.1 rel.2.1[k])=cc at *
      by_cases c0:cc=0
      ·simp [c0,h8]
      ·by_cases c1:cc=1
       ·simp [c1,h8]
       ·have:¬0<cc:=by omega
        simp [c0,c1,this]
     ·rw [if_neg (show ¬(0:Int)<(k:Int) by omega)]
      simp [h8]
    ·simp only [h3,decide_false,Bool.not_false,cond_true,ne_eq,not_false_eq_true,if_true]
   ·simp only
    rw [qK (qaK (Nat.lt_irrefl _))]
  ·rw [if_pos h1]; try rw [if_pos h1]
 ·simp only
  rw [qK (qaK (Nat.lt_irrefl _))]
 ·cases qag (qpq s.1 rels) s.1.length <;> rfl
theorem qqz {t:qj} {row:qb3} (h:qoK t row=0):row.length=t.2.1.length:=by
 unfold qoK at h
 split at h
 ·cases h
 ·omega
theorem qnh (t:qj) (rows:List qb3):∀i e,qiS t rows i=some e→e≠0:=fun i e h=>by
 unfold qiS at h
 split at h
 ·cases h
 split at h
 ·rename_i hv; injection h with h; subst h; exact hv
 split at h
 ·injection h with h; subst h; decide
 split at h
 ·injection h with h; subst h; decide
 ·cases h
theorem qoQ (ts:List qj) (rels:List qch):∀i e,qpq ts rels i=some e→e≠0:=fun i e h=>by
 unfold qpq at h
 split at h
 ·cases h
 split at h
 ·injection h with h; subst h; decide
 split at h
 ·injection h with h; subst h; decide
 ·obtain ⟨j,_,h2,_⟩:=qcC h
  exact qnh _ _ j e h2
structure Form (s:qc) (rels:List qch):Prop where
 len:rels.length=s.1.length
 name:∀i (hi:i<rels.length) (ht:i<s.1.length),(rels[i]).1=(s.1[i]).1
 row:∀i (hi:i<rels.length) (ht:i<s.1.length),∀r∈(rels[i]).2.1,r.length=(s.1[i]).2.1.length
 sorted:∀i (hi:i<rels.length) (ht:i<s.1.length),(rels[i]).2.1.Pairwise (fun a b=>qaX (qdj (s.1[i]).2.2.1 a) (qdj (s.1[i]).2.2.1 b)<0)
theorem qmb {s:qc} {rels:List qch} (h:qcK s rels=0):Form s rels:=by
 unfold qcK at h
 split at h
 ·cases h
 rename_i h0
 obtain ⟨h1,_⟩:=qeX (qoQ s.1 rels) h
 have key:∀i (hi:i<rels.length) (ht:i<s.1.length),(rels[i]).1=(s.1[i]).1∧qag (qiS s.1[i] (rels[i]).2.1) (rels[i]).2.1.length=none:=fun i hi ht=>by
  have:=qbt h1 i hi
  simp only [qpq,List.getElem?_eq_getElem hi,qM _ ht] at this
  split at this
  ·cases this
  rename_i hq
  split at this
  ·cases this
  exact ⟨by simpa using hq,this⟩
 refine ⟨by omega,fun i hi ht=>(key i hi ht).1,fun i hi ht r hr=> ?_,fun i hi ht=> ?_⟩
 ·obtain ⟨k,hk,rfl⟩:=List.getElem_of_mem hr
  have:=qbt (key i hi ht).2 k hk
  simp only [qiS,List.getElem?_eq_getElem hk] at this
  split at this
  ·cases this
  rename_i hv
  exact qqz (by simpa using hv)
 ·refine qmC (fun a b:qb3=>qaX (qdj (s.1[i]).2.2.1 a) (qdj (s.1[i]).2.2.1 b)<0) (fun _ _ _ h1 h2=>qk6 _ _ _ h1 h2) (rels[i]).2.1 fun k hk=> ?_
  have:=qbt (key i hi ht).2 (k+1) hk
  simp only [qiS,List.getElem?_eq_getElem hk] at this
  rw [show ((k+1:Nat):Int) - 1=(k:Int) by omega,qM _ (show k<(rels[i]).2.1.length by omega)] at this
  split at this
  ·cases this
  split at this
  ·cases this
  rename_i h3
  split at this
  ·cases this
  rename_i h4
  have c:=qhe (qdj (s.1[i]).2.2.1 (rels[i]).2.1[k]) (qdj (s.1[i]).2.2.1 (rels[i]).2.1[k+1])
  have h3':=fun h=>h3 ⟨Nat.succ_pos _,h⟩
  have h4':=fun h=>h4 ⟨Nat.succ_pos _,h⟩
  omega
def qnv (s:qc) (rels:List qch) (n:List UInt8):List qb3:=match qhz (qc8 n) s.1 with
 |none=>[]
 |some i=>match rels[i]? with
  |none=>[]
  |some r=>r.2.1
def tabS (s:qc) (n:List UInt8):qj:=(qih s n).getD qn9
theorem Form.at {s:qc} {rels:List qch} (h:Form s rels) {n:List UInt8} {t:qj} (ht:qih s n=some t):∃(i:Nat) (hi:i<s.1.length) (hr:i<rels.length),qhz (qc8 n) s.1=some i∧s.1[i]=t∧qnv s rels n=(rels[i]).2.1∧tabS s n=t:=by
 rcases qfy s n with ⟨_,h2⟩|⟨i,t',h1,h2,hi,h3⟩
 ·rw [h2] at ht; cases ht
 ·rw [h2] at ht
  injection ht with ht
  subst ht
  have hr:i<rels.length:=by rw [h.len]; exact hi
  refine ⟨i,hi,hr,h1,?_,?_,?_⟩
  ·have:=h3 qn9; rwa [qM _ hi] at this
  ·unfold qnv; rw [h1]; simp only [List.getElem?_eq_getElem hr]
  ·unfold tabS; rw [h2]; rfl
end
end Go.Proofs.Ytpdhkfofjpankaa
namespace Go.Proofs.Ytpdhkfofjpankaa
open Go.Vi
noncomputable section
structure KSmall (s:qc) (rels:List qch):Prop where
 kt:∀r∈rels,∀row∈r.2.1,∀t∈s.1,(encR (qdj t.2.2.1 row)).length≤1099511627776
 kf:∀r∈rels,∀row∈r.2.1,∀f∈s.2.1,(encR (qdj f.2.1 row)).length≤1099511627776
end
end Go.Proofs.Ytpdhkfofjpankaa
namespace Go.Proofs.Ytpdhkfofjpankaa
open Go.Vi
noncomputable section
theorem qfJ (N:Nat) (xs:List qch) (hx:qdK N xs) (hB:N≤1099511627776):qaL N (xs,())=some ((xs,()),()):=by
 have hn:=hx.n
 simp only [qaL]
 refine qhn (S:=(List qch)×(Int×Unit)) (fun i=>(xs.take i,((i:Int),()))) xs.length _ (by simp) (fun i hi ih=> ?_) (fun ih=> ?_) hn
 ·have hm:=List.getElem_mem hi
  have e5:qd8 (qr (xs.take i)) (qr ([((xs[i]).1,((xs[i]).2.1,()))]:List qch)) 40=true:=qe5 (by rw [List.length_take]; simp; omega)
  simp only [qbi hi,qF hi,cond_true,qM _ hi,qmH N _ (hx.rows _ hm) hB (fun r h=>by have:=hx.row _ hm r h; omega),qi,qp,e5,Bool.and_self,qbA,q8 (show i<4611686018427387904 by omega)]
  rw [qbw hi]
 ·simp only
  rw [qK (qaK (Nat.lt_irrefl _)),List.take_length]
def qfg (s:qc):List qch:=s.1.map fun t=>(t.1,(([]:List qb3),()))
theorem qoG (N:Nat) (s:qc) (hs:qc6 N s):qQ N (s,())=some ((qfg s,()),()):=by
 have hn:=hs.sm.n
 have ht:=hs.sm.t
 have e1:((leI 0 (qr s.1))&&((leI (qr s.1) (qr s.1))&&(qpu (qr s.1) 40)))=true:=by
  rw [qb2,qb2,qiD,qg]; simp; omega
 simp only [qQ,qO,e1,cond_true]
 refine qhn (S:=(List qch)×(Int×Unit)) (fun i=>((s.1.take i).map (fun t=>(t.1,(([]:List qb3),())))++List.replicate (s.1.length - i) qnW,((i:Int),()))) s.1.length _ (by rw [qdW,qg]; simp) (fun i hi ih=> ?_) (fun ih=> ?_) ht
 ·have hrep:List.replicate (s.1.length - i) qnW=qnW::List.replicate (s.1.length - (i+1)) qnW:=by
   rw [show s.1.length - i=(s.1.length - (i+1))+1 by omega,List.replicate_succ]
  have hl:i<((s.1.take i).map (fun t=>((t.1,(([]:List qb3),())):qch))++List.replicate (s.1.length - i) qnW).length:=by
   rw [List.length_append,List.length_map,List.length_take,List.length_replicate]; omega
  have hg:((s.1.take i).map (fun t=>((t.1,(([]:List qb3),())):qch))++List.replicate (s.1.length - i) qnW)[i]=qnW:=by
   rw [List.getElem_append_right (by rw [List.length_map,List.length_take]; omega)]
   simp
  simp only [qbi hi,qF hi,qF hl,cond_true,qM _ hi,qM _ hl,hg,q8 (show i<4611686018427387904 by omega),qbc,Int.toNat_natCast]
  have e2:(((s.1.take i).map (fun t=>((t.1,(([]:List qb3),())):qch))++List.replicate (s.1.length - i) qnW).set i ((s.1[i]).1,qnW.2))=(s.1.take (i+1)).map (fun t=>((t.1,(([]:List qb3),())):qch))++List.replicate (s.1.length - (i+1)) qnW:=by
   rw [hrep,List.set_append_right _ _ (by rw [List.length_map,List.length_take]; omega),qbw hi,List.map_append,List.length_map,List.length_take,show i - min i s.1.length=0 by omega,List.set_cons_zero,List.append_assoc]
   rfl
  rw [e2]
 ·simp only
  rw [qK (qaK (Nat.lt_irrefl _)),List.take_length,Nat.sub_self]
  simp [qfg]
theorem findIdx (s:qc) (rels:List qch) (n:List UInt8):
  (bif ((leI 0 (qhO (qc8 n) s.1))&&(ltI (qhO (qc8 n) s.1) (qr rels))) then inB (qhO (qc8 n) s.1) (qr rels) else true)=true∧
  (bif (leI 0 (qhO (qc8 n) s.1)) then inB (qhO (qc8 n) s.1) (qr s.1) else true)=true∧
  (bif ((leI 0 (qhO (qc8 n) s.1))&&(ltI (qhO (qc8 n) s.1) (qr rels))) then (qn rels (qhO (qc8 n) s.1) qnW).2.1 else ([]:List qb3))=qnv s rels n∧
  (bif (leI 0 (qhO (qc8 n) s.1)) then qn s.1 (qhO (qc8 n) s.1) qn9 else qn9)=tabS s n:=by
 rcases qfy s n with ⟨h1,h2⟩|⟨i,t,h1,h2,hi,h3⟩
 ·have e:qhO (qc8 n) s.1= -1:=by rw [qhO,h1]
  have e0:leI 0 (-1)=false:=by rw [qb2]; rfl
  simp only [e,e0,Bool.false_and,cond_false,qnv,h1,tabS,h2,Option.getD_none,and_self]
 ·have e:qhO (qc8 n) s.1=(i:Int):=by rw [qhO,h1]
  have e0:leI 0 (i:Int)=true:=by rw [qb2]; simp
  by_cases hl:i<rels.length
  ·simp only [e,e0,qbi hl,qF hl,qF hi,Bool.and_self,cond_true,h3,qM _ hl,qnv,h1,List.getElem?_eq_getElem hl,tabS,h2,Option.getD_some,and_self]
  ·simp only [e,e0,qaK hl,qF hi,Bool.true_and,Bool.and_false,cond_true,cond_false,h3,qnv,h1,List.getElem?_eq_none (show rels.length≤i by omega),tabS,h2,Option.getD_some,and_self]
end
end Go.Proofs.Ytpdhkfofjpankaa
namespace Go.Proofs.Ytpdhkfofjpankaa
open Go.Vi
noncomputable section
theorem qi3 {α:Type} (f:α→Nat): {l:List α} → {x:α} →x∈l→f x≤(l.map f).sum
 |y::l,x,h=>by
  rw [List.map_cons,List.sum_cons]
  rcases List.mem_cons.1 h with rfl|h
  ·omega
  ·have:=qi3 f h; omega
theorem qhU {α:Type} (f:α→Nat):(l:List α)→(∀x∈l,1≤f x)→l.length≤(l.map f).sum
 |[],_=>Nat.zero_le _
 |x::l,h=>by
  have h1:=h x List.mem_cons_self
  have h2:=qhU f l fun y hy=>h y (List.mem_cons_of_mem _ hy)
  rw [List.map_cons,List.sum_cons,List.length_cons]; omega
theorem qqo (t:qj):qq8.bulk t=t.1.length+1+((t.2.1.map TCol.bulk).sum+1+((t.2.2.1.map (Ty.bulk (.int .i64))).sum+1+1)):=by
 obtain ⟨t1,t2,t3,⟨⟩⟩:=t; rfl
theorem qqh (c:qe):TCol.bulk c=c.1.length+1+(1+(1+1)):=by
 obtain ⟨c1,c2,c3,⟨⟩⟩:=c; rfl
theorem qq3 (f:qs):TFk.bulk f=f.1.length+1+((f.2.1.map (Ty.bulk (.int .i64))).sum+1+(f.2.2.1.length+1+1)):=by
 obtain ⟨f1,f2,f3,⟨⟩⟩:=f; rfl
theorem qpl {t:qj} (h:qq8.bulk t≤1048576):qjW 2000000 t:=by
 rw [qqo,qiY] at h
 have h1:=qhU TCol.bulk t.2.1 fun c _=>qeW TCol c
 refine ⟨by omega,by omega,by omega,by omega,by omega,fun c hc=> ?_⟩
 have:=qi3 TCol.bulk hc
 rw [qqh] at this
 omega
theorem qlM {s:qc} (h:TSch.bulk s≤1048576):qc6 2000000 s:=by
 obtain ⟨a,b,c,⟨⟩⟩:=s
 rw [qpE] at h
 have h1:=qhU qq8.bulk a fun x _=>qeW qq8 x
 have h2:=qhU TFk.bulk b fun x _=>qeW TFk x
 have h3:=qhU TCon.bulk c fun x _=>qeW TCon x
 have ht:∀t∈a,qjW 2000000 t:=fun t ht=>qpl (by have:=qi3 qq8.bulk ht; omega)
 have hf:∀f∈b,f.2.1.length<2000000:=fun f hf=>by
  have:=qi3 TFk.bulk hf
  rw [qq3,qiY] at this
  omega
 exact ⟨⟨by omega,by simp only; omega,by simp only; omega,by simp only; omega,fun t h=>(ht t h).c,fun t h=>(ht t h).k,hf,fun t h=>(ht t h).nm,fun t h=>(ht t h).cn⟩,by omega⟩
theorem qrb {a b:Nat} (h:a+b≤1048576):a * (67+b)≤1000000000000:=by
 rcases Nat.le_total a 524288 with h1|h1
 ·have:=Nat.mul_le_mul h1 (show 67+b≤67+1048576 by omega)
  omega
 ·have:=Nat.mul_le_mul (show a≤1048576 by omega) (show 67+b≤67+524288 by omega)
  omega
theorem qpp {M:Nat} :(r:qb3)→(∀v∈r,(encV v).length≤M)→((r.map encV).flatten).length≤r.length * M
 |[],_=>by simp
 |v::r,h=>by
  have h1:=h v List.mem_cons_self
  have h2:=qpp r fun u hu=>h u (List.mem_cons_of_mem _ hu)
  simp only [List.map_cons,List.flatten_cons,List.length_append,List.length_cons,Nat.add_mul,Nat.one_mul] at h2⊢
  omega
theorem qno {r:qb3} {a b:Nat} (ha:r.length≤a) (hab:a+b≤1048576) (h:∀v∈r,qjj.good v∧v.2.2.1.length≤b):(encR r).length≤1099511627776:=by
 have h1:=qpp (M:=67+b) r fun v hv=>by
  obtain ⟨⟨g1,g2,g3,_⟩,g4⟩:=h v hv
  have:=qp7 (v:=v) ⟨g1,g2,g3⟩
  omega
 have h2:=Nat.mul_le_mul_right (67+b) ha
 have h3:=qrb hab
 have h4:=qib (n:=r.length) (by unfold maxLen; omega)
 unfold encR
 rw [List.length_append]
 omega
theorem qmQ:(r:qb3)→∀v∈r,v.2.2.1.length+r.length≤(r.map qjj.bulk).sum
 |[],v,hv=>by cases hv
 |u::r,v,hv=>by
  have hu:qjj.bulk u=1+(1+(u.2.2.1.length+1+1)):=rfl
  have hr:r.length≤(r.map qjj.bulk).sum:=by
   have:=qf7 qjj r
   have e:(Ty.slice qjj).bulk r=(r.map qjj.bulk).sum+1:=rfl
   omega
  simp only [List.map_cons,List.sum_cons,List.length_cons]
  rcases List.mem_cons.1 hv with rfl|hv
  ·omega
  ·have:=qmQ r v hv
   omega
theorem qlO:(rows:List qb3)→∀r∈rows,(r.map qjj.bulk).sum+1≤(rows.map (Ty.slice qjj).bulk).sum
 |[],r,hr=>by cases hr
 |q::rows,r,hr=>by
  simp only [List.map_cons,List.sum_cons]
  have e:(Ty.slice qjj).bulk q=(q.map qjj.bulk).sum+1:=rfl
  rcases List.mem_cons.1 hr with rfl|hr
  ·omega
  ·have:=qlO rows r hr
   omega
abbrev qkL:Ty:= .pair .str (.pair (.slice (.slice qjj)) .unit)
theorem qp4 (r:qch):qkL.bulk r=r.1.length+1+((r.2.1.map (Ty.slice qjj).bulk).sum+1+1):=by
 obtain ⟨r1,r2,⟨⟩⟩:=r; rfl
structure RIn (b:Nat) (rels:List qch):Prop where
 good:∀r∈rels,∀row∈r.2.1,∀v∈row,qjj.good v
 bulk:(rels.map qkL.bulk).sum≤b
theorem qqA {rels:List qch} {b:Nat} (hg:(Ty.slice qkL).good rels) (hb:(Ty.slice qkL).bulk rels≤b+1):RIn b rels:=by
 have e:(Ty.slice qkL).bulk rels=(rels.map qkL.bulk).sum+1:=rfl
 refine ⟨fun r hr row hrow v hv=> ?_,by omega⟩
 have h:=hg.2 r hr
 obtain ⟨r1,r2,⟨⟩⟩:=r
 exact (h.2.1.2 row hrow).2 v hv
theorem rlen (r:qb3):r.length≤(r.map qjj.bulk).sum:=by
 have:=qf7 qjj r
 have e:(Ty.slice qjj).bulk r=(r.map qjj.bulk).sum+1:=rfl
 omega
theorem RIn.rows {b:Nat} {rels:List qch} (h:RIn b rels) {r:qch} (hr:r∈rels):r.2.1.length≤b∧∀row∈r.2.1,(row.map qjj.bulk).sum≤b:=by
 have h1:=qi3 qkL.bulk hr
 have h2:=h.bulk
 rw [qp4] at h1
 refine ⟨?_,fun row hrow=> ?_⟩
 ·have:=qf7 (.slice qjj) r.2.1
  have e:(Ty.slice (.slice qjj)).bulk r.2.1=(r.2.1.map (Ty.slice qjj).bulk).sum+1:=rfl
  omega
 ·have:=qlO r.2.1 row hrow
  omega
theorem qlg {b:Nat} {rels:List qch} (h:RIn b rels) (hb:b≤1048576):qdK 2000000 rels:=by
 refine ⟨?_,fun r hr=> ?_,fun r hr row hrow=> ?_,fun r hr row hrow=> ?_⟩
 ·have h1:=qhU qkL.bulk rels fun x _=>qeW qkL x
  have:=h.bulk
  omega
 ·have:=(h.rows hr).1; omega
 ·have:=(h.rows hr).2 row hrow
  have:=rlen row
  omega
 ·have h2:=(h.rows hr).2 row hrow
  have h3:=rlen row
  exact qno (a:=row.length) (b:=1048576 - row.length) (Nat.le_refl _) (by omega) fun v hv=>⟨h.good r hr row hrow v hv,by have:=qmQ row v hv; omega⟩
end
end Go.Proofs.Ytpdhkfofjpankaa
namespace Go.Proofs.Ytpdhkfofjpankaa
open Go.Vi
noncomputable section
def qq5 (N:Nat) (t:qj):(qb3×(qb3×Unit))→Option (Int×Unit):=fun x=>qgx (fun y=>(y.1.1,())) (qbk N (x.1,(x.2.1,(t,()))))
def cmpV (N:Nat) (t:qj):(qb3×(qb3×Unit))→Option (Int×Unit):=fun x=>qgx (fun y=>(y.1.1,())) (qw N (x.1,(x.2.1,(t,()))))
theorem qqY (N:Nat) (t:qj) (a b:qb3) (hN:t.2.2.1.length<N) (hB:N≤1099511627776):qq5 N t (a,(b,()))=some (qaX (qdj t.2.2.1 a) (qdj t.2.2.1 b),()):=by
 have hk:(qdj t.2.2.1 a).length<N:=by rw [qgb]; exact hN
 simp only [qq5,qbk,qmV N t _ hN hB,qer N _ _ hk hB,qi,qp,Bool.and_self,cond_true,qei,Option.map_some]
theorem qqT (N:Nat) (t:qj) (a b:qb3) (hN:t.2.2.1.length<N) (hB:N≤1099511627776):cmpV N t (a,(b,()))=some (qaX (qdj t.2.2.1 a) (qdj t.2.2.1 b),()):=by
 have hk:(qdj t.2.2.1 a).length<N:=by rw [qgb]; exact hN
 simp only [cmpV,qw,qmS N t _ hN hB,qfP N _ _ hk hB,qi,qp,Bool.and_self,cond_true,qei,Option.map_some]
theorem alike (N:Nat) (t:qj) (P:qb3→Prop) (hN:t.2.2.1.length<N) (hB:N≤1099511627776):Go.Vi.Alike P (qq5 N t) (cmpV N t):=fun a b _ _=>
 ⟨_,_,qqY N t a b hN hB,qqT N t a b hN hB,Iff.rfl⟩
def qot (N:Nat) (t:qj) (rows:List qb3):List qb3:=(qae (qy N (rows,(qq5 N t,()))) ((),(rows,()))).2.1
theorem qmE (N:Nat) (t:qj) (rows:List qb3) (hN:t.2.2.1.length<N) (hB:N≤1099511627776) (hr:2 * rows.length+100<N):
  qy N (rows,(qq5 N t,()))=some ((),(qot N t rows,()))∧qy N (rows,(cmpV N t,()))=some ((),(qot N t rows,()))∧(qot N t rows).length=rows.length∧∀x∈qot N t rows,x∈rows:=by
 obtain ⟨out,k1,k2,k3,k4⟩:=qn4 (d:=([]:qb3)) (alike N t (· ∈rows) hN hB) (ys:=rows) (by omega) hr (fun x hx=>hx)
 have k1':qy N (rows,(qq5 N t,()))=some ((),(out,())):=k1
 have e:qot N t rows=out:=by simp only [qot,k1',qp]
 rw [e]
 exact ⟨k1',k2,k3,k4⟩
end
end Go.Proofs.Ytpdhkfofjpankaa
namespace Go.Proofs.Ytpdhkfofjpankaa
open Go.Vi
noncomputable section
theorem qpM {α:Type} (xs:List α):qaO xs 0 0=[]:=by
 have:=qku xs 0
 simpa using this
theorem qqu {n b:Nat} (h:n * b≤140737488355328):qpu (n:Int) b=true:=by
 rw [qiD]
 simp
 omega
theorem qpW (N n:Nat) (h:n≤4000000):qbh N ((),(((n:Nat):Int),()))=some (([],()),()):=by
 have e0:qr ([]:List qb3)=0:=by rw [qg]; rfl
 have e1:qbr .i64 0 0=0:=by rw [qbW (by decide) (by decide)]; rfl
 simp only [qbh,qO,e0,e1]
 rw [qK (by rw [qbx]; simp),qbW (by omega) (by omega),show ((n:Nat):Int) - 0=n by omega,qpM]
 have hs:inS 0 0 0=true:=by rw [qjr]; rfl
 have hl:qr (qlm (α:=List qa) ((n:Nat):Int) ([]:List qa))=n:=by
  rw [qdW,qg]; simp
 have hz:ltI 0 ((n:Nat):Int)=decide (0<n):=by
  rw [qbx]
  by_cases h:0<n
  ·rw [decide_eq_true h,decide_eq_true (by omega)]
  ·rw [decide_eq_false h,decide_eq_false (by omega)]
 have hs2:inS 0 0 ((n:Nat):Int)=true:=by rw [qjr]; simp
 rw [hl,hz,hs,hs2,qqu (by omega)]
 by_cases h:0<n <;> simp [h]
theorem qgh {α:Type} {xss:List (List α)} {i:Nat} (h:i<xss.length):(xss.take (i+1)).flatten=(xss.take i).flatten++xss[i]:=by
 rw [qbw h,List.flatten_append]
 simp
theorem qmR {α:Type} (xss:List (List α)) (i:Nat):(xss.take i).flatten.length≤xss.flatten.length:=by
 conv=>rhs; rw [←List.take_append_drop i xss,List.flatten_append,List.length_append]
 omega
theorem qnw (N:Nat) (xss:List (List qb3)) (hN:xss.length<N) (hx:xss.length≤1048576) (hb:xss.flatten.length≤4000000):qaa N (xss,())=some ((xss.flatten,()),()):=by
 simp only [qaa,qO]
 refine qdv (fun i=>((((xss.take i).flatten.length:Nat):Int),((i:Int),()))) xss.length _ rfl ?_ ?_ hN
 ·intro i hi ih
  have h1:=qmR xss (i+1)
  rw [qgh hi,List.length_append] at h1
  dsimp only
  rw [qJ (qbi hi),qJ (qF hi),qM _ hi,q8 (by omega),qg,qdz (by omega) (by omega),qK (by rw [qbx]; simp; omega),qgh hi,List.length_append]
  rfl
 ·intro ih
  dsimp only
  rw [qK (qaK (by omega)),List.take_length]
  simp only [qpW N _ hb,qi,qp,cond_true]
  refine qdv (fun i=>((xss.take i).flatten,((i:Int),()))) xss.length _ rfl ?_ ?_ hN
  ·intro i hi ih2
   have h1:=qmR xss (i+1)
   rw [qgh hi,List.length_append] at h1
   dsimp only
   rw [qJ (qbi hi),qJ (qF hi),qM _ hi,q8 (by omega),qJ (qe5 (by omega)),qbA,qgh hi]
  ·intro ih2
   dsimp only
   rw [qK (qaK (by omega)),List.take_length]
def uniR (N:Nat) (s:qc) (b:List qch) (i:Nat) (q:qch):qch:=(q.1,(qot N (s.1.getD i qn9) (q.2.1++(b.getD i qnW).2.1),()))
def qi1 (N:Nat) (s:qc) (a b:List qch):List qch:=a.mapIdx (uniR N s b)
theorem qhy (N:Nat) (s:qc) (a b:List qch):(qi1 N s a b).length=a.length:=by simp [qi1]
theorem qmx {N:Nat} {s:qc} {a b:List qch} {i:Nat} (h:i<a.length) (hs:i<s.1.length) (hb:i<b.length):(qi1 N s a b)[i]'(by rw [qhy]; exact h)=(a[i].1,(qot N s.1[i] (a[i].2.1++b[i].2.1),())):=by
 simp only [qi1,List.getElem_mapIdx,uniR,List.getD_eq_getElem?_getD,List.getElem?_eq_getElem hs,List.getElem?_eq_getElem hb,Option.getD_some]
theorem qrf {α:Type} {u a:List α} {i:Nat} (hu:u.length=a.length) (h:i<a.length) (d:α):qn (u.take i++a.drop i) (i:Int) d=a[i]:=by
 refine qgg ?_
 rw [List.getElem?_append_right (by rw [List.length_take]; omega),List.length_take,show i - min i u.length=0 by omega,List.getElem?_drop,Nat.add_zero,List.getElem?_eq_getElem h]
theorem qqV {α:Type} {u a:List α} {i:Nat} (hu:u.length=a.length) (h:i<a.length) (v:α):qdS (u.take i++a.drop i) (i:Int) v=u.take i++v::a.drop (i+1):=by
 rw [qbc,Int.toNat_natCast,List.set_append_right _ _ (by rw [List.length_take]; omega),List.length_take,show i - min i u.length=0 by omega,qhR h]
 rfl
theorem qqp {α:Type} {u a:List α} {i:Nat} (hu:u.length=a.length) (h:i<a.length) (v d:α):qn (u.take i++v::a.drop (i+1)) (i:Int) d=v:=by
 refine qgg ?_
 rw [List.getElem?_append_right (by rw [List.length_take]; omega),List.length_take,show i - min i u.length=0 by omega]
 rfl
theorem qp0 {α:Type} {u a:List α} {i:Nat} (hu:u.length=a.length) (h:i<a.length) (v w:α):qdS (u.take i++w::a.drop (i+1)) (i:Int) v=u.take i++v::a.drop (i+1):=by
 rw [qbc,Int.toNat_natCast,List.set_append_right _ _ (by rw [List.length_take]; omega),List.length_take,show i - min i u.length=0 by omega]
 rfl
theorem qqP {α:Type} {u a:List α} {i:Nat} (hu:u.length=a.length):(u.take i++a.drop i).length=a.length:=by
 rw [List.length_append,List.length_take,List.length_drop]; omega
theorem qqi {α:Type} {u a:List α} {i:Nat} (hu:u.length=a.length) (h:i<a.length) (v:α):(u.take i++v::a.drop (i+1)).length=a.length:=by
 rw [List.length_append,List.length_take,List.length_cons,List.length_drop]; omega
theorem qqf {α:Type} {u a:List α} {i:Nat} (hu:u.length=a.length) (h:i<a.length):u.take i++u[i]::a.drop (i+1)=u.take (i+1)++a.drop (i+1):=by
 rw [qbw (show i<u.length by omega),List.append_assoc]
 rfl
theorem qiF {α:Type} {b:List α} {i:Nat} (h:i<b.length):qdS b (i:Int) b[i]=b:=by
 rw [qbc,Int.toNat_natCast]
 exact List.set_getElem_self h
structure qoM (N:Nat) (s:qc) (a b:List qch):Prop where
 ss:qc6 N s
 ra:qdK N a
 rb:qdK N b
 two:∀i (h:i<a.length) (k:i<b.length),2 * ((a[i]).2.1.length+(b[i]).2.1.length)+100<N
 hN:100<N
 hB:N≤4000000
theorem qlU {N:Nat} {s:qc} {a b:List qch} (h:qoM N s a b) (ea:a.length=s.1.length) (eb:b.length=s.1.length):qdK N (qi1 N s a b):=by
 have key:∀r∈qi1 N s a b,∃i,∃(ha:i<a.length) (hb:i<b.length),r.2.1.length=(a[i]).2.1.length+(b[i]).2.1.length∧∀x∈r.2.1,x∈(a[i]).2.1∨x∈(b[i]).2.1:=fun r hr=>by
  obtain ⟨i,hi,rfl⟩:=List.getElem_of_mem hr
  rw [qhy] at hi
  have h2:=h.two i hi (by omega)
  have hB:=h.hB
  obtain ⟨_,_,k3,k4⟩:=qmE N s.1[i] ((a[i]).2.1++(b[i]'(by omega)).2.1) ((h.ss.tab (List.getElem_mem (by omega))).k) (by omega) (by rw [List.length_append]; omega)
  rw [qmx hi (by omega) (by omega)]
  refine ⟨i,hi,by omega,?_,fun x hx=> ?_⟩
  ·show (qot N _ _).length=_
   rw [k3,List.length_append]
  ·exact List.mem_append.1 (k4 x hx)
 refine ⟨by rw [qhy]; exact h.ra.n,fun r hr=> ?_,fun r hr x hx=> ?_,fun r hr x hx=> ?_⟩
 ·obtain ⟨i,ha,hb,e,_⟩:=key r hr
  have:=h.two i ha hb
  omega
 ·obtain ⟨i,ha,hb,_,e⟩:=key r hr
  rcases e x hx with q|q
  ·exact h.ra.row _ (List.getElem_mem ha) x q
  ·exact h.rb.row _ (List.getElem_mem hb) x q
 ·obtain ⟨i,ha,hb,_,e⟩:=key r hr
  rcases e x hx with q|q
  ·exact h.ra.enc _ (List.getElem_mem ha) x q
  ·exact h.rb.enc _ (List.getElem_mem hb) x q
def expU (N:Nat) (s:qc) (a b:List qch):List qch×(Int×Unit):=
 if qcK s a≠0 then ([],(qcK s a,())) else if qcK s b≠0 then ([],(qcK s b,())) else
 if qcK s (qi1 N s a b)≠0 then ([],(qcK s (qi1 N s a b),())) else (qi1 N s a b,(0,()))
theorem two0 {α:Type} (a b d:α):qn [a,b] 0 d=a:=by rw [qcW]; rfl
theorem two1 {α:Type} (a b d:α):qn [a,b] 1 d=b:=by rw [qcW]; rfl
theorem qiI {s:qc} {a:List qch} (h:qcK s a=0):a.length=s.1.length:=(qmb h).len
theorem it1:qbf .i64 0 1=1:=by rw [qgd]; rfl
theorem it2:qbf .i64 1 1=2:=by rw [qgd]; rfl
theorem lt02:ltI 0 2=true:=by rw [qbx]; rfl
theorem lt12:ltI 1 2=true:=by rw [qbx]; rfl
theorem lt22:ltI 2 2=false:=by rw [qbx]; rfl
theorem in02:inB 0 2=true:=by rw [qfX]; rfl
theorem in12:inB 1 2=true:=by rw [qfX]; rfl
theorem qpP (N:Nat) (s:qc) (a b:List qch) (h:qoM N s a b):qbE N (s,(a,(b,())))=some (expU N s a b,()):=by
 have hB:=h.hB
 have hN:=h.hN
 have fa:=qge N s a h.ss h.ra
 have fb:=qge N s b h.ss h.rb
 simp only [qbE]
 obtain ⟨M,rfl⟩:∃M,N=M+3:=⟨N - 3,by omega⟩
 rw [qa9]
 simp only [lt02,in02,cond_true,two0,fa,qi,qp,qO,qaI,←decide_not,qaC]
 unfold expU
 by_cases h0:qcK s a≠0
 ·rw [if_pos h0,if_pos h0]
 rw [if_neg h0,if_neg h0,it1,qa9]
 simp only [lt12,in12,cond_true,two1,fb,qi,qp,qO,qaI,←decide_not,qaC]
 by_cases h1:qcK s b≠0
 ·rw [if_pos h1,if_pos h1]
 rw [if_neg h1,if_neg h1,it2,qa9]
 have ea:=qiI (Classical.not_not.1 h0)
 have eb:=qiI (Classical.not_not.1 h1)
 have hu:=qhy (M+3) s a b
 have hs:=qlU h ea eb
 have fu:=qge (M+3) s (qi1 (M+3) s a b) h.ss hs
 simp only [lt22,cond_false,qfJ (M+3) a h.ra (by omega),qfJ (M+3) b h.rb (by omega),qi,qp,Bool.and_self,cond_true]
 have hn:=h.ra.n
 refine qdv (S:=List qch×(List qch×(Int×Unit))) (fun i=>((qi1 (M+3) s a b).take i++a.drop i,(b,((i:Int),())))) a.length _ (by simp) (fun i hi ih=> ?_) (fun ih=> ?_) hn
 ·have hb':i<b.length:=by omega
  have hs':i<s.1.length:=by omega
  have h2:=h.two i hi hb'
  have hlen:(a[i].2.1++b[i].2.1).length=a[i].2.1.length+b[i].2.1.length:=List.length_append
  obtain ⟨k1,_,k3,k4⟩:=qmE (M+3) s.1[i] (a[i].2.1++b[i].2.1) ((h.ss.tab (List.getElem_mem hs')).k) (by omega) (by omega)
  have l1:qr ((qi1 (M+3) s a b).take i++a.drop i)=qr a:=by rw [qg,qg,qqP hu]
  have l2:∀v,qr ((qi1 (M+3) s a b).take i++v::a.drop (i+1))=qr a:=fun v=>by rw [qg,qg,qqi hu hi]
  have r1:qd8 (qr a[i].2.1) (qr b[i].2.1) 24=true:=qe5 (by omega)
  have hset:qdS b (i:Int) (b[i].1,(b[i].2.1,b[i].2.2))=b:=qiF hb'
  simp only [qbi hi,qF hi,qF hs',qF hb',cond_true,l1,l2,qrf hu hi,qqV hu hi,qqp hu hi,qp0 hu hi,qM _ hb',qM _ hs',r1,qbJ,decide_true,Bool.and_self,qbA,hset,q8 (show i<4611686018427387904 by omega)]
  simp only [show (fun x8=>qgx (fun y9=>(y9.1.1,())) (qbk (M+3) (x8.1,(x8.2.1,(s.1[i],())))))=qq5 (M+3) s.1[i] from rfl,k1,qi,qp,Bool.and_self,cond_true]
  have e:(a[i].1,(qot (M+3) s.1[i] (a[i].2.1++b[i].2.1),a[i].2.2))=(qi1 (M+3) s a b)[i]'(by omega):=(qmx hi hs' hb').symm
  rw [e,qqf hu hi]
 ·simp only
  rw [qK (qaK (Nat.lt_irrefl _)),List.drop_length,List.append_nil,List.take_of_length_le (by omega)]
  simp only [fu,qi,qp,cond_true,qaI,←decide_not,qaC]
  by_cases h3:qcK s (qi1 (M+3) s a b)≠0
  ·rw [if_pos h3,if_pos h3]
  ·rw [if_neg h3,if_neg h3]
end
end Go.Proofs.Ytpdhkfofjpankaa
namespace Go.Proofs.Ytpdhkfofjpankaa
open Go.Vi
noncomputable section
theorem qkB (N:Nat) (xs:List qb3) (φ:(qb3×Unit)→Option (Bool×Unit)) (q:qb3→Bool) (hφ:∀a∈xs,φ (a,())=some (q a,())) (hN:xs.length<N) (hB:N≤1000000000):
  qax N (xs,(φ,()))=some ((xs.filter (fun r=> !q r),()),()):=by
 have hix:qa4 N (xs,(φ,()))=some ((qhO q xs,()),()):=qdi φ q xs hφ ([]:qb3) N hN (by omega)
 simp only [qax,hix,qO,qi,qp,cond_true]
 unfold qhO
 cases hq:qhz q xs with
 |none=>
  have:=qiK hq
  simp only [eqT (rfl:(-1:Int)= -1),cond_true]
  rw [List.filter_eq_self.2 fun r hr=>by simp [this r hr]]
 |some i0=>
  obtain ⟨hi0,h1,h2⟩:=qfx hq
  simp only [eqF (show ¬((i0:Int)= -1) by omega),cond_false]
  have htk:xs.take i0=(xs.take i0).filter (fun r=> !q r):=(List.filter_eq_self.2 fun r hr=>by
   obtain ⟨j,hj,rfl⟩:=List.getElem_of_mem hr
   rw [List.length_take] at hj
   rw [List.getElem_take,h2 j (by omega)]; rfl).symm
  refine qiW (S:=List qb3×(Int×(Int×Unit))) (fun p=>xs.length - p.2.2.1.toNat) (fun p=>∃i j:Nat,p.2.1=(i:Int)∧p.2.2.1=(j:Int)∧i<j∧j≤xs.length∧p.1.length=xs.length∧p.1.take i=(xs.take j).filter (fun r=> !q r)∧p.1.drop j=xs.drop j)
   (fun r=>r=some ((xs.filter (fun r=> !q r),()),())) ?_ N _ ⟨i0,i0+1,rfl,by rw [q8 (by omega)],by omega,by omega,rfl,?_,rfl⟩ (by rw [q8 (by omega)]; simp only [Int.toNat_natCast]; omega)
  ·rintro ih ⟨ys,_,_,⟨⟩⟩ ⟨i,j,rfl,rfl,hij,hj,hl,ht,hd⟩ hih
   simp only at hl ht hd hih⊢
   by_cases hjl:j<xs.length
   ·have hjy:j<ys.length:=by omega
    have hyj:ys[j]=xs[j]:=by
     have e1:=List.drop_eq_getElem_cons hjy
     have e2:=List.drop_eq_getElem_cons hjl
     rw [hd,e2] at e1
     injection e1 with e1 _
     exact e1.symm
    have hdd:ys.drop (j+1)=xs.drop (j+1):=by
     have:=congrArg (List.drop 1) hd
     rwa [List.drop_drop,List.drop_drop] at this
    have hiy:i<ys.length:=by omega
    have hm:=List.getElem_mem hjl
    simp only [qbi hjy,qF hjy,qF hiy,cond_true,qM _ hjy,hyj,hφ _ hm,qi,qp,q8 (show i<4611686018427387904 by omega),q8 (show j<4611686018427387904 by omega),qbc,Int.toNat_natCast]
    cases hqj:q xs[j] with
    |true=>
     simp only [Bool.not_true,cond_false,cond_true]
     refine hih _ ⟨i,j+1,rfl,rfl,by omega,by omega,hl,?_,hdd⟩ (by simp only [Int.toNat_natCast]; omega)
     simp only
     rw [ht,qbw hjl,List.filter_append]
     simp [hqj]
    |false=>
     simp only [Bool.not_false,cond_true]
     refine hih _ ⟨i+1,j+1,rfl,rfl,by omega,by omega,by simp only [List.length_set]; exact hl,?_,?_⟩ (by simp only [Int.toNat_natCast]; omega)
     ·simp only
      rw [qbw (by rw [List.length_set]; exact hiy),qbw hjl,List.filter_append,←ht]
      have e3:(ys.set i xs[j]).take i=ys.take i:=by rw [List.take_set]; exact List.set_eq_of_length_le (by rw [List.length_take]; omega)
      rw [e3]
      simp [hqj]
     ·simp only
      rw [List.drop_set_of_lt (by omega)]
      exact hdd
   ·have hje:j=xs.length:=by omega
    subst hje
    have hly:qr ys=(xs.length:Int):=by rw [qg,hl]
    have e4:qaO (qdF (qaO ys 0 (i:Int)) (qdF (qlm (α:=qb3) (qbr .i64 (qr ys) (i:Int)) ([]:qb3)) (qaO ys (qr ys) (qr ys)))) 0 (i:Int)=ys.take i:=by
     rw [hly,qbW (by omega) (by omega)]
     simp only [qck,qbA,qdW,Int.toNat_natCast,Int.toNat_zero,List.drop_zero]
     rw [List.take_append_of_le_length (by rw [List.length_take]; omega),List.take_take,Nat.min_self]
    have e5:inS (i:Int) (qr ys) (qr ys)=true:=qqk (by omega)
    have e6:inS 0 (i:Int) (qr (qdF (qaO ys 0 (i:Int)) (qdF (qlm (α:=qb3) (qbr .i64 (qr ys) (i:Int)) ([]:qb3)) (qaO ys (qr ys) (qr ys)))))=true:=by
     rw [hly,qbW (by omega) (by omega),qjr,qg]
     simp only [qck,qbA,qdW,Int.toNat_natCast,List.length_append,List.length_drop,List.length_take,List.length_replicate]
     refine decide_eq_true ?_
     omega
    have e7:ltI ((xs.length:Nat):Int) (qr ys)=false:=by rw [hly]; exact ltF (by omega)
    simp only [e7,cond_false,e5,e6,cond_true,e4]
    rw [ht,List.take_length]
  ·simp only
   rw [qbw hi0,List.filter_append,←htk]
   simp [h1]
abbrev qlq:Type:=List UInt8×(qb3×(Bool×Unit))
abbrev qnY:qlq:=(([]:List UInt8),(([]:qb3),(false,())))
abbrev zVl:qa:=(0,(0,(([]:List UInt8),())))
abbrev colW:qe:=(([]:List UInt8),(0,(false,())))
def keyE (t:qj) (key:qb3) (i:Nat):Option Int:=match t.2.2.1[i]? with
 |none=>none
 |some c=>if qnT (qn key (i:Int) zVl)≠0 then some (qnT (qn key (i:Int) zVl)) else if (qn key (i:Int) zVl).1≠(qn t.2.1 c colW).2.1 then some 7 else none
def vKey (t:qj) (key:qb3):Int:=if key.length≠t.2.2.1.length then 7 else match qag (keyE t key) t.2.2.1.length with
 |some e=>e
 |none=>0
def qrm (s:qc) (c:qlq):Int:=if qpy s≠0 then qpy s else if c.1=[] then (if 0<c.2.1.length∨c.2.2.1=true then 3 else 0) else match qih s c.1 with
 |none=>4
 |some t=>if c.2.2.1=true then (if 0<c.2.1.length then 3 else 0) else vKey t c.2.1
theorem pk_in {s:qc} (h:qpy s=0) {t:qj} (ht:t∈s.1) {c:Int} (hc:c∈t.2.2.1):0≤c∧c<(t.2.1.length:Int):=qlX (qpU h).tabs t ht c hc
theorem inB_in {α:Type} {xs:List α} {c:Int} (h:0≤c∧c<(xs.length:Int)):inB c (qr xs)=true:=by
 rw [qfX,qg]; exact decide_eq_true h
theorem ql2 (N:Nat) (t:qj) (key:qb3) (hk:∀c∈t.2.2.1,0≤c∧c<(t.2.1.length:Int)) (hN:t.2.2.1.length<N) (hB:N≤1099511627776):qbq N (t,(key,()))=some ((vKey t key,()),()):=by
 simp only [qbq,qO,qid,qaC]
 unfold vKey
 by_cases h0:key.length≠t.2.2.1.length
 ·rw [if_pos h0,if_pos h0]
 rw [if_neg h0,if_neg h0]
 refine (qaE (S:=Int×Unit) (fun i=>((i:Int),())) t.2.2.1.length (keyE t key) (fun e=>some ((e,()),())) (some ((0,()),())) rfl (fun i hi _ ih=> ?_) (fun _ ih=> ?_) hN).trans ?_
 ·have hik:i<key.length:=by omega
  simp only [qbi hi,qF hi,qF hik,cond_true,qiO,qi,qp,Bool.and_self,Bool.true_and,qM _ hi,inB_in (hk _ (List.getElem_mem hi)),q8 (show i<4611686018427387904 by omega),qaI,←decide_not,qaC,keyE,List.getElem?_eq_getElem hi]
  by_cases h1:qnT (qn key (i:Int) zVl)≠0
  ·rw [if_pos h1,if_pos h1]
  rw [if_neg h1,if_neg h1]
  by_cases h2:(qn key (i:Int) zVl).1≠(qn t.2.1 (t.2.2.1[i]) colW).2.1
  ·rw [if_pos h2,if_pos h2]
  ·rw [if_neg h2,if_neg h2]
 ·simp only
  rw [qK (qaK (Nat.lt_irrefl _))]
 ·cases qag (keyE t key) t.2.2.1.length <;> rfl
theorem qrH {α:Type} (xs:List α):ltI 0 (qr xs)=decide (0<xs.length):=qj5 xs 0
theorem qmm (N:Nat) (s:qc) (c:qlq) (hs:qc6 N s):qb5 N (s,(c,()))=some ((qrm s c,()),()):=by
 have hB:=hs.sm.n
 simp only [qb5,qO,qoE N s hs,qi,qp,cond_true,qaI,←decide_not,qaC,qcA,qrH]
 unfold qrm
 by_cases h0:qpy s≠0
 ·rw [if_pos h0,if_pos h0]
 rw [if_neg h0,if_neg h0]
 by_cases h1:c.1=[]
 ·rw [if_pos h1,if_pos h1]
  cases hd:c.2.2.1 <;> by_cases h2:0<c.2.1.length <;> simp [h2]
 rw [if_neg h1,if_neg h1]
 simp only [qdr N s c.1 hs.sm.t hB,qi,qp,cond_true]
 unfold qih
 cases hi:qhz (qc8 c.1) s.1 with
 |none=>simp
 |some i=>
  obtain ⟨hi',_,_⟩:=qfx hi
  have hk:=ql2 N s.1[i] c.2.1 (fun k hk=>pk_in (Classical.not_not.1 h0) (List.getElem_mem hi') hk) (hs.tab (List.getElem_mem hi')).k hB
  simp only [Option.isSome_some,Bool.not_true,cond_false,Option.getD_some,qF hi',qM _ hi',hk,qi,qp,Bool.and_self,cond_true,Option.bind_some,List.getElem?_eq_getElem hi']
  cases hd:c.2.2.1
  ·simp
  ·by_cases h2:0<c.2.1.length <;> simp [h2]
def covI (s:qc) (c:qlq) (i:Nat) (key:qb3):Bool:=match qhz (qc8 c.1) s.1 with
 |none=>false
 |some j=>if j<i then false else if i<j∨c.2.2.1=true then true else decide (qaX key c.2.1≤0)
theorem qpn (N:Nat) (s:qc) (c:qlq) (i:Nat) (key:qb3) (hN:s.1.length<N) (hk:key.length<N) (hB:N≤1099511627776):qcg N (c,(s,((i:Int),(key,()))))=some ((covI s c i key,()),()):=by
 simp only [qcg,qO,qdr N s c.1 hN hB,qer N _ _ hk hB,qi,qp,cond_true,qbx,qf2]
 unfold covI
 cases hi:qhz (qc8 c.1) s.1 with
 |none=>simp
 |some j=>
  by_cases h1:j<i
  ·simp [h1]
  ·by_cases h2:i<j
   ·simp [h1,h2]
   ·cases hd:c.2.2.1 <;> simp [h1,h2]
theorem qpI {α:Type} {u a:List α} {i:Nat} (hu:u.length=a.length) (h:i<a.length) (d:α):qn (u.take i++a.drop i) (i:Int) d=a[i]:=by
 refine qgg ?_
 rw [List.getElem?_append_right (by rw [List.length_take]; omega),List.length_take,show i - min i u.length=0 by omega,List.getElem?_drop,Nat.add_zero,List.getElem?_eq_getElem h]
theorem qp9 {α:Type} {u a:List α} {i:Nat} (hu:u.length=a.length) (h:i<a.length) (v:α):qdS (u.take i++a.drop i) (i:Int) v=u.take i++v::a.drop (i+1):=by
 rw [qbc,Int.toNat_natCast,List.set_append_right _ _ (by rw [List.length_take]; omega),List.length_take,show i - min i u.length=0 by omega,qhR h]
 rfl
theorem qpG {α:Type} {u a:List α} {i:Nat} (hu:u.length=a.length):(u.take i++a.drop i).length=a.length:=by
 rw [List.length_append,List.length_take,List.length_drop]; omega
theorem qow {α:Type} {u a:List α} {i:Nat} (hu:u.length=a.length) (h:i<a.length):u.take i++u[i]::a.drop (i+1)=u.take (i+1)++a.drop (i+1):=by
 rw [qbw (show i<u.length by omega),List.append_assoc]
 rfl
def filR (s:qc) (c:qlq) (b:Bool) (i:Nat) (q:qch):qch:=(q.1,(q.2.1.filter (fun r=>decide (covI s c i (qdj (s.1.getD i qn9).2.2.1 r)=b)),()))
def qnq (s:qc) (c:qlq) (b:Bool) (inst:List qch):List qch:=inst.mapIdx (filR s c b)
theorem qkZ (s:qc) (c:qlq) (b:Bool) (inst:List qch):(qnq s c b inst).length=inst.length:=by simp [qnq]
theorem qrB {s:qc} {c:qlq} {b:Bool} {inst:List qch} {i:Nat} (h:i<inst.length) (hs:i<s.1.length):(qnq s c b inst)[i]'(by rw [qkZ]; exact h)=(inst[i].1,(inst[i].2.1.filter (fun r=>decide (covI s c i (qdj (s.1[i]).2.2.1 r)=b)),())):=by
 simp only [qnq,List.getElem_mapIdx,filR,List.getD_eq_getElem?_getD,List.getElem?_eq_getElem hs,Option.getD_some]
theorem qlB (N:Nat) (s:qc) (inst:List qch) (c:qlq) (b:Bool) (hs:qc6 N s) (hr:qdK N inst) (hl:inst.length=s.1.length) (hB:N≤1000000000):qba N (s,(inst,(c,(b,()))))=some ((qnq s c b inst,()),()):=by
 have hu:=qkZ s c b inst
 simp only [qba,qfJ N inst hr (by omega),qO,qi,qp,cond_true]
 have hn:=hr.n
 refine qdv (S:=List qch×(Int×Unit)) (fun i=>((qnq s c b inst).take i++inst.drop i,((i:Int),()))) inst.length _ (by simp) (fun i hi ih=> ?_) (fun ih=> ?_) hr.n
 ·have hs':i<s.1.length:=by omega
  have hks:=(hs.tab (List.getElem_mem hs')).k
  have l1:qr ((qnq s c b inst).take i++inst.drop i)=qr inst:=by rw [qg,qg,qpG hu]
  have dl:=qkB N inst[i].2.1 (fun x4=>(qgx (fun y5:((Bool×Unit)×Unit)=>(y5.1.1,())) (qby N (x4.1,(c,(s,((i:Int),(s.1[i],(b,()))))))))) (fun r=> !decide (covI s c i (qdj (s.1[i]).2.2.1 r)=b)) (fun r _=>by
   simp only [qby,qmV N _ r hks (show N≤1099511627776 by omega),qi,qp,cond_true,qpn N s c i _ hs.sm.t (show (qdj (s.1[i]).2.2.1 r).length<N by rw [qgb]; exact hks) (show N≤1099511627776 by omega),Bool.and_self,qei,Option.map_some,qrd]) (hr.rows _ (List.getElem_mem hi)) hB
  simp only [Bool.not_not] at dl
  simp only [qbi hi,qF hi,qF hs',cond_true,l1,qpI hu hi,qp9 hu hi,qM _ hs',qbJ,decide_true,Bool.and_self,dl,qi,qp,Bool.and_true,q8 (show i<4611686018427387904 by omega)]
  have e:(inst[i].1,(inst[i].2.1.filter (fun r=>decide (covI s c i (qdj (s.1[i]).2.2.1 r)=b)),inst[i].2.2))=(qnq s c b inst)[i]'(by omega):=(qrB hi hs').symm
  rw [e,qow hu hi]
 ·simp only
  rw [qK (qaK (Nat.lt_irrefl _)),List.drop_length,List.append_nil,List.take_of_length_le (by omega)]
def qnV (s:qc) (inst:List qch) (c:qlq):List qch×(List qch×(Int×Unit)):=
 if qrm s c≠0 then ([],([],(qrm s c,()))) else if qcK s inst≠0 then ([],([],(qcK s inst,()))) else (qnq s c true inst,(qnq s c false inst,(0,())))
theorem qpN (N:Nat) (s:qc) (inst:List qch) (c:qlq) (hs:qc6 N s) (hr:qdK N inst) (hB:N≤1000000000):qbC N (s,(inst,(c,())))=some (qnV s inst c,()):=by
 simp only [qbC,qO,qmm N s c hs,qi,qp,cond_true,qaI,←decide_not,qaC]
 unfold qnV
 by_cases h0:qrm s c≠0
 ·rw [if_pos h0,if_pos h0]
 rw [if_neg h0,if_neg h0]
 simp only [qge N s inst hs hr,qi,qp,cond_true]
 by_cases h1:qcK s inst≠0
 ·rw [if_pos h1,if_pos h1]
 rw [if_neg h1,if_neg h1]
 have hl:=(qmb (Classical.not_not.1 h1)).len
 simp only [qlB N s inst c true hs hr hl hB,qlB N s inst c false hs hr hl hB,qi,qp,Bool.and_self,cond_true]
def endC (s:qc):qlq:=if s.1.length=0 then qnY else ((s.1.getLastD qn9).1,(([]:qb3),(true,())))
theorem qqB (N:Nat) (s:qc) (hb:s.1.length≤1000000000):qbK N (s,())=some ((endC s,()),()):=by
 simp only [qbK,endC]
 by_cases h0:s.1.length=0
 ·rw [if_pos h0,qJ (by rw [qbJ,qg]; exact decide_eq_true (by omega))]
 ·rw [if_neg h0,qK (by rw [qbJ,qg]; exact decide_eq_false (by omega))]
  have e:qbr .i64 (qr s.1) 1=((s.1.length - 1:Nat):Int):=by rw [qg,qbW (by omega) (by omega)]; omega
  have hi:s.1.length - 1<s.1.length:=by omega
  rw [e,qJ (qF hi),qM _ hi]
  have:s.1.getLastD qn9=s.1[s.1.length - 1]:=by
   rw [List.getLastD_eq_getLast?,List.getLast?_eq_getElem?,List.getElem?_eq_getElem hi]
   rfl
  rw [this]
def qlY (xs:List qch):Nat:=(xs.map (fun q=>q.2.1.length)).sum
theorem qiU {xs:List qch} {i:Nat} (h:i<xs.length):qlY (xs.take (i+1))=qlY (xs.take i)+xs[i].2.1.length:=by
 simp only [qlY,qbw h,List.map_append,List.sum_append,List.map_cons,List.map_nil,List.sum_cons,List.sum_nil,Nat.add_zero]
theorem qoc (xs:List qch) (i:Nat):qlY (xs.take i)≤qlY xs:=by
 conv=>rhs; rw [←List.take_append_drop i xs]
 simp only [qlY,List.map_append,List.sum_append]; omega
def advL (s:qc):Nat→Nat→List qch→qlq×(Bool×(Int×Unit))
 |_,_,[]=>(endC s,(true,(0,())))
 |i,n,q::r=>if n<q.2.1.length then ((q.1,(qdj (s.1.getD i qn9).2.2.1 (q.2.1.getD (n - 1) ([]:qb3)),(false,()))),(false,(0,()))) else if n=q.2.1.length then ((q.1,(([]:qb3),(true,()))),(false,(0,()))) else advL s (i+1) (n - q.2.1.length) r
def outA (s:qc) (inst:List qch) (c:qlq) (n:Int):qlq×(Bool×(Int×Unit)):=
 if (qnV s inst c).2.2.1≠0 then (qnY,(false,((qnV s inst c).2.2.1,()))) else if n<1 then (qnY,(false,(1,()))) else
 if (qlY (qnV s inst c).2.1:Int)≤n then (endC s,(true,(0,()))) else advL s 0 n.toNat (qnV s inst c).2.1
theorem qnN (N:Nat) (s:qc) (inst:List qch) (c:qlq) (n:Int) (hs:qc6 N s) (hr:qdK N inst) (hB:N≤1000000000) (hn: -9223372036854775808≤n∧n<9223372036854775808) (htot:qlY inst≤1000000000):qaG N (s,(inst,(c,(n,()))))=some (outA s inst c n,()):=by
 have hsl:=hs.sm.t
 simp only [qaG,qO,qpN N s inst c hs hr hB,qi,qp,cond_true,qaI,←decide_not,qaC,qbx n 1]
 unfold outA
 by_cases h0:(qnV s inst c).2.2.1≠0
 ·rw [if_pos h0,if_pos h0]
 rw [if_neg h0,if_neg h0]
 by_cases h1:n<1
 ·rw [if_pos h1,if_pos h1]
 rw [if_neg h1,if_neg h1]
 have hrem:(qnV s inst c).2.1.length≤s.1.length∧qlY (qnV s inst c).2.1≤qlY inst:=by
  unfold qnV at h0⊢
  split
  ·rename_i h; rw [if_pos h] at h0; exact absurd h (by simpa using h0)
  rename_i h2
  rw [if_neg h2] at h0
  split
  ·rename_i h; rw [if_pos h] at h0; exact absurd h (by simpa using h0)
  rename_i h3
  have hl:=(qmb (Classical.not_not.1 h3)).len
  refine ⟨by rw [qkZ]; omega,?_⟩
  have key:∀(k:Nat) (xs:List qch),((xs.mapIdx (fun i=>filR s c false (i+k))).map (fun q=>q.2.1.length)).sum≤(xs.map (fun q=>q.2.1.length)).sum:=fun k xs=>by
   induction xs generalizing k with
   |nil=>simp
   |cons x xs ih=>
    simp only [List.mapIdx_cons,List.map_cons,List.sum_cons]
    have h4:(filR s c false (0+k) x).2.1.length≤x.2.1.length:=List.length_filter_le ..
    have h5:=ih (k+1)
    simp only [show ∀i,i+(k+1)=i+1+k from fun i=>by omega] at h5
    omega
  exact key 0 inst
 obtain ⟨hl,ht⟩:=hrem
 generalize (qnV s inst c).2.1=rem at hl ht⊢
 refine qdv (S:=qR×(Int×(Int×Unit))) (fun i=>(qnY,(((qlY (rem.take i):Nat):Int),((i:Int),())))) rem.length _ rfl (fun i hi ih=> ?_) (fun ih=> ?_) (by omega)
 ·have h2:=qoc rem (i+1)
  rw [qiU hi] at h2
  simp only [qbi hi,qF hi,cond_true,qM _ hi]
  have e9:qbf .i64 ((qlY (rem.take i):Nat):Int) (qr rem[i].2.1)=((qlY (rem.take (i+1)):Nat):Int):=by
   rw [qg,qdz (by omega) (by omega),qiU hi,Int.natCast_add]
  rw [q8 (show i<4611686018427387904 by omega),e9]
 ·simp only [qaK (Nat.lt_irrefl _),cond_false,List.take_length,qf2,qaC,qqB N s (show s.1.length≤1000000000 by omega),qi,qp,cond_true]
  by_cases h2:(qlY rem:Int)≤n
  ·rw [if_pos h2,if_pos h2]
  rw [if_neg h2,if_neg h2]
  generalize hout:advL s 0 n.toNat rem=out
  refine qiW (S:=Int×(qR×(Int×Unit))) (fun p=>rem.length - p.2.2.1.toNat) (fun p=>∃m i:Nat,p=((m:Int),(qnY,((i:Int),())))∧i≤rem.length∧1≤m∧(m:Int)≤n∧advL s i m (rem.drop i)=out)
   (fun r=>r=some (out,())) ?_ N _ ⟨n.toNat,0,by rw [Int.toNat_of_nonneg (by omega)]; rfl,by omega,by omega,by omega,hout⟩ (by show rem.length - 0<N; omega)
  rintro ih _ ⟨m,i,rfl,hi,hm,hmn,he⟩ hih
  simp only [Int.toNat_natCast] at hih
  by_cases hi':i<rem.length
  case neg=>
   have:i=rem.length:=by omega
   subst this
   rw [List.drop_length] at he
   simp only [qaK (Nat.lt_irrefl _),cond_false,qqB N s (show s.1.length≤1000000000 by omega),qi,qp,cond_true]
   rw [←he]
   rfl
  have hs':i<s.1.length:=by omega
  have hlb:rem[i].2.1.length≤qlY rem:=by
   have h3:=qoc rem (i+1)
   rw [qiU hi'] at h3
   omega
  rw [qhR hi'] at he
  simp only [qbi hi',qF hi',qF hs',cond_true,qM _ hi',qM _ hs',qmV N _ _ (hs.tab (List.getElem_mem hs')).k (show N≤1099511627776 by omega),qi,qp,Bool.and_true,Bool.true_and]
  unfold advL at he
  by_cases h3:m<rem[i].2.1.length
  ·have e:qbr .i64 (m:Int) 1=((m - 1:Nat):Int):=by rw [qbW (by omega) (by omega)]; omega
   have hm1:m - 1<rem[i].2.1.length:=by omega
   rw [if_pos h3] at he
   simp only [List.getD_eq_getElem?_getD,List.getElem?_eq_getElem hs',List.getElem?_eq_getElem hm1,Option.getD_some] at he
   simp only [qbi h3,e,qF hm1,cond_true,qM _ hm1]
   rw [←he]
  ·rw [if_neg h3] at he
   have e:qbr .i64 (m:Int) (qr rem[i].2.1)=((m - rem[i].2.1.length:Nat):Int):=by rw [qg,qbW (by omega) (by omega)]; omega
   simp only [qaK h3,cond_false,e,qbJ,qaC]
   by_cases h4:m=rem[i].2.1.length
   ·rw [if_pos h4] at he
    rw [if_pos (by omega),←he]
   ·rw [if_neg h4] at he
    rw [if_neg (by omega),q8 (show i<4611686018427387904 by omega)]
    exact hih _ ⟨_,_,rfl,by omega,by omega,by omega,he⟩ (by simp only [Int.toNat_natCast]; omega)
end
end Go.Proofs.Ytpdhkfofjpankaa
namespace Go.Proofs.Ytpdhkfofjpankaa
open Go.Vi
noncomputable section
theorem qc6.mono {N M:Nat} {s:qc} (h:qc6 N s) (hNM:N≤M) (hM:M≤1099511627776):qc6 M s:=by
 obtain ⟨⟨_,t,f,c,tc,tk,fc,tn,cn⟩,m⟩:=h
 exact ⟨⟨hM,by omega,by omega,by omega,fun x hx=>Nat.lt_of_lt_of_le (tc x hx) hNM,fun x hx=>Nat.lt_of_lt_of_le (tk x hx) hNM,fun x hx=>Nat.lt_of_lt_of_le (fc x hx) hNM,fun x hx=>Nat.lt_of_lt_of_le (tn x hx) hNM,fun x hx y hy=>Nat.lt_of_lt_of_le (cn x hx y hy) hNM⟩,by omega⟩
theorem qdK.mono {N M:Nat} {rels:List qch} (h:qdK N rels) (hNM:N≤M):qdK M rels:=
 ⟨Nat.lt_of_lt_of_le h.n hNM,fun r hr=>Nat.lt_of_lt_of_le (h.rows r hr) hNM,fun r hr x hx=>Nat.lt_of_lt_of_le (h.row r hr x hx) hNM,h.enc⟩
theorem qlS (N:Nat) (xs ys:qb3) (hN:xs.length<N) (hb:xs.length≤1099511627776):qbm N (xs,(ys,()))=some ((decide (xs=ys),()),()):=by
 simp only [qbm]
 by_cases hl:xs.length=ys.length
 ·rw [qK (by rw [qaI,qg,qg,hl]; simp)]
  refine qlx (ne:=fun (a b:qa)=> !((eqI a.1 b.1)&&((eqI a.2.1 b.2.1)&&(eqS a.2.2.1 b.2.2.1)))) (fun a b=> ?_) xs ys (0,(0,(([]:List UInt8),()))) hl hb hN
  obtain ⟨a1,a2,a3,⟨⟩⟩:=a
  obtain ⟨b1,b2,b3,⟨⟩⟩:=b
  simp only [qcA,qbJ,Prod.mk.injEq,and_true,Bool.decide_and]
 ·rw [qJ (by rw [qaI,qg,qg]; simp; omega)]
  have:xs≠ys:=fun h=>hl (by rw [h])
  simp [this]
theorem qks (N:Nat) (a:List qb3) (hN:a.length<N) (hr:∀r∈a,r.length<N) (hB:N≤1099511627776):qaS N (a,(a,()))=some ((true,()),()):=by
 simp only [qaS]
 rw [qid,show decide (a.length≠a.length)=false by simp,cond_false]
 refine qdv (S:=Int×Unit) (fun i=>((i:Int),())) a.length _ rfl (fun i hi ih=> ?_) (fun ih=> ?_) hN
 ·simp only [qbi hi,qF hi,cond_true,qM _ hi,qlS N a[i] a[i] (hr _ (List.getElem_mem hi)) (Nat.le_trans (Nat.le_of_lt (hr _ (List.getElem_mem hi))) hB),qi,qp,Bool.and_self,decide_true,Bool.not_true,cond_false,q8 (show i<4611686018427387904 by omega)]
 ·simp only
  rw [qK (qaK (Nat.lt_irrefl _))]
theorem qnk (N:Nat) (a:List qch) (hN:a.length<N) (h1:∀q∈a,q.2.1.length<N) (hr:∀q∈a,∀r∈q.2.1,r.length<N) (hB:N≤1099511627776):qaJ N (a,(a,()))=some ((true,()),()):=by
 simp only [qaJ,qO]
 rw [qid,show decide (a.length≠a.length)=false by simp,cond_false]
 refine qdv (S:=Int×Unit) (fun i=>((i:Int),())) a.length _ rfl (fun i hi ih=> ?_) (fun ih=> ?_) hN
 ·have hm:=List.getElem_mem hi
  simp only [qbi hi,qF hi,cond_true,qM _ hi,qks N (a[i]).2.1 (h1 _ hm) (hr _ hm) hB,qi,qp,Bool.and_self,qcA,decide_true,Bool.not_true,Bool.or_true,Bool.or_false,cond_false,q8 (show i<4611686018427387904 by omega)]
 ·simp only
  rw [qK (qaK (Nat.lt_irrefl _))]
def qed:qc:=([([105,116,101,109],([([105,100],(1,(false,()))),([115,105,122,101],(1,(true,()))),([102,105,114,115,116],(3,(false,()))),([108,97,115,116],(3,(false,())))],([0],()))),([111,114,100,101,114],([([105,100],(1,(false,()))),([105,116,101,109],(1,(true,()))),([112,97,105,100],(2,(false,())))],([0],())))],([([111,114,100,101,114],([1],([105,116,101,109],())))],([([105,116,101,109],(1,([60,61],(-1,((1,(6,([],()))),())))))],())))
theorem qry:qpy qed=0:=by
 delta qpy qpx fkL qpt qqG pkE vFk qrg fkE qkm
 simp only [qcW,qiC]
 decide+kernel
theorem qoo:qcK qed (qfg qed)=0:=by
 delta qcK qpq qiS qoK qlE qkm qfg
 simp only [qcW]
 decide+kernel
theorem qrt:qc6 2000000 qed:=qlM (by decide+kernel)
theorem qqs:outA qed (qfg qed) qnY 1=(([111,114,100,101,114],([],(true,()))),(true,(0,()))):=by
 have h0:qrm qed qnY=0:=by
  unfold qrm
  rw [if_neg (by rw [qry]; decide),if_pos rfl,if_neg (by simp)]
 have h1:qnV qed (qfg qed) qnY=(qnq qed qnY true (qfg qed),(qnq qed qnY false (qfg qed),(0,()))):=by
  unfold qnV
  rw [if_neg (by rw [h0]; decide),if_neg (by rw [qoo]; decide)]
 have h2:qlY (qnq qed qnY false (qfg qed))=0:=rfl
 unfold outA
 rw [h1,if_neg (by decide),if_neg (by decide),h2,if_pos (by decide)]
 rfl
theorem qmB {N:Nat} (h:100<N):qdK N (qfg qed):=by
 have e:∀r∈qfg qed,r.2.1=[]:=fun r hr=>by
  obtain ⟨t,_,rfl⟩:=List.mem_map.1 hr
  rfl
 refine ⟨by show 2<N; omega,fun r hr=>by rw [e r hr]; show 0<N; omega,fun r hr x hx=> ?_,fun r hr x hx=> ?_⟩ <;> (rw [e r hr] at hx; cases hx)
theorem qqr (N:Nat) (h:2000000≤N) (hB:N≤1000000000):qaV N ()=some ((true,()),()):=by
 have ss:qc6 N qed:=qrt.mono (by omega) (by omega)
 have hb:qD N ()=some ((qed,()),()):=rfl
 have hE:=qoG N qed ss
 have hA:=qnN N qed (qfg qed) qnY 1 ss (qmB (by omega)) hB (by omega) (by decide)
 rw [qqs] at hA
 simp only [qaV,qO,hb,hE,hA,qi,qp,cond_true,Bool.and_self,eqT (rfl:(0:Int)=0),qcA,decide_true,Bool.and_true,Bool.true_and]
theorem qqU (N:Nat) (s:qc) (a b:List qch) (h:qoM N s a b) (hN:2000000≤N) (htot:∀i (h:i<a.length) (k:i<b.length),(a[i]).2.1.length+(b[i]).2.1.length≤3000000):q9 N (s,(a,(b,())))=some ((true,()),()):=by
 have hB:=h.hB
 have hN':=h.hN
 have fa:=qhE N s a h.ss h.ra
 have fb:=qhE N s b h.ss h.rb
 simp only [q9,qpP N s a b h,qqr N hN (by omega),qO,qi,qp,cond_true,Bool.not_true,cond_false]
 obtain ⟨M,rfl⟩:∃M,N=M+3:=⟨N - 3,by omega⟩
 have l0:eqI (qr ([]:List qch)) 0=true:=by rw [qbJ,qg]; decide
 rw [qa9]
 simp only [lt02,in02,cond_true,two0,fa,qi,qp]
 unfold expU
 by_cases h0:qcK s a≠0
 ·simp only [if_pos h0,neT h0,cond_true,l0,eqT (rfl:qcK s a=qcK s a),Bool.and_self]
 rw [if_neg h0]
 simp only [neF (Classical.not_not.1 h0),cond_false]
 rw [it1,qa9]
 simp only [lt12,in12,cond_true,two1,fb,qi,qp]
 by_cases h1:qcK s b≠0
 ·simp only [if_pos h1,neT h1,cond_true,l0,eqT (rfl:qcK s b=qcK s b),Bool.and_self]
 rw [if_neg h1]
 simp only [neF (Classical.not_not.1 h1),cond_false]
 rw [it2,qa9]
 have ea:=qiI (Classical.not_not.1 h0)
 have eb:=qiI (Classical.not_not.1 h1)
 have hu:=qhy (M+3) s a b
 have hs:=qlU h ea eb
 have fu:=qhE (M+3) s (qi1 (M+3) s a b) h.ss hs
 have hn:=h.ra.n
 simp only [lt22,cond_false]
 refine qdv (S:=List qch×(Int×Unit)) (fun i=>((qi1 (M+3) s a b).take i,((i:Int),()))) a.length _ rfl (fun i hi ih=> ?_) (fun ih=> ?_) hn
 ·have hb':i<b.length:=by omega
  have hs':i<s.1.length:=by omega
  have h2:=h.two i hi hb'
  have hlen:(a[i].2.1++b[i].2.1).length=a[i].2.1.length+b[i].2.1.length:=List.length_append
  obtain ⟨_,k1,k3,k4⟩:=qmE (M+3) s.1[i] (a[i].2.1++b[i].2.1) ((h.ss.tab (List.getElem_mem hs')).k) (by omega) (by omega)
  have hcat:qaa (M+3) (([a[i].2.1,b[i].2.1]:List (List qb3)),())=some ((a[i].2.1++b[i].2.1,()),()):=by
   have h3:=htot i hi hb'
   have:=qnw (M+3) [a[i].2.1,b[i].2.1] (by show 2<M+3; omega) (by show 2≤1048576; omega) (by simp only [List.flatten_cons,List.flatten_nil,List.append_nil]; omega)
   simpa only [List.flatten_cons,List.flatten_nil,List.append_nil] using this
  have r1:∀q:qch,qd8 (qr ((qi1 (M+3) s a b).take i)) (qr [q]) 40=true:=fun q=>qe5 (by rw [List.length_take]; simp; omega)
  simp only [qbi hi,qF hi,qF hs',qF hb',cond_true,qM _ hi,qM _ hb',qM _ hs',hcat,qi,qp,Bool.and_self,qbA,q8 (show i<4611686018427387904 by omega)]
  simp only [show (fun x8=>qgx (fun y9=>(y9.1.1,())) (qw (M+3) (x8.1,(x8.2.1,(s.1[i],())))))=cmpV (M+3) s.1[i] from rfl,k1,qi,qp,r1,cond_true]
  have e:(a[i].1,(qot (M+3) s.1[i] (a[i].2.1++b[i].2.1),()))=(qi1 (M+3) s a b)[i]'(by omega):=(qmx hi hs' hb').symm
  rw [e,qbw (show i<(qi1 (M+3) s a b).length by omega)]
 ·simp only
  rw [qK (qaK (Nat.lt_irrefl _)),List.take_of_length_le (by omega)]
  simp only [fu,qi,qp,cond_true]
  by_cases h3:qcK s (qi1 (M+3) s a b)≠0
  ·simp only [if_pos h3,neT h3,cond_true,l0,eqT (rfl:qcK s (qi1 (M+3) s a b)=qcK s (qi1 (M+3) s a b)),Bool.and_self]
  ·simp only [if_neg h3,neF (Classical.not_not.1 h3),cond_false,eqT (rfl:(0:Int)=0),qnk (M+3) _ hs.n hs.rows hs.row (show M+3≤1099511627776 by omega),qi,qp,Bool.or_true,Bool.not_true,Bool.and_self,cond_true]
theorem law17 (x:qc×(List qch×(List qch×Unit))) (hg:qji [qW,.slice qt,.slice qt] x) (hb:qhD [qW,.slice qt,.slice qt] x≤1048576):∃N z,q9 N x=some ((true,()),z):=by
 obtain ⟨s,a,b,⟨⟩⟩:=x
 have ga:(Ty.slice qkL).good a:=hg.2.1
 have gb:(Ty.slice qkL).good b:=hg.2.2.1
 have hb':TSch.bulk s+((Ty.slice qkL).bulk a+((Ty.slice qkL).bulk b+0))≤1048576:=hb
 have ea:(Ty.slice qkL).bulk a=(a.map qkL.bulk).sum+1:=rfl
 have eb:(Ty.slice qkL).bulk b=(b.map qkL.bulk).sum+1:=rfl
 have ia:=qqA (b:=(a.map qkL.bulk).sum) ga (by omega)
 have ib:=qqA (b:=(b.map qkL.bulk).sum) gb (by omega)
 have ss:qc6 3000000 s:=(qlM (by omega)).mono (by omega) (by omega)
 have ra:qdK 3000000 a:=(qlg ia (by omega)).mono (by omega)
 have rb:qdK 3000000 b:=(qlg ib (by omega)).mono (by omega)
 have two:∀i (h:i<a.length) (k:i<b.length),(a[i]).2.1.length+(b[i]).2.1.length≤1048576:=fun i h k=>by
  have h1:=(ia.rows (List.getElem_mem h)).1
  have h2:=(ib.rows (List.getElem_mem k)).1
  omega
 refine ⟨3000000,(),qqU 3000000 s a b ⟨ss,ra,rb,fun i h k=> ?_,by omega,by omega⟩ (by omega) fun i h k=> ?_⟩
 ·have:=two i h k
  omega
 ·have:=two i h k
  omega
end
end Go.Proofs.Ytpdhkfofjpankaa
