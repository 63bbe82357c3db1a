import Derived.Test.YtfcdfdnlgfebmaaGreatDoorFns
import Derived.Test.YtfcdfdnlgfebmaaGreatDoorViLib
import Derived.Test.YtfcdfdnlgfebmaaGreatDoorViEnc
import Derived.Test.YtfcdfdnlgfebmaaGreatDoorViOrd
import Derived.Test.YtfcdfdnlgfebmaaGreatDoorViSrt
import Derived.Test.YtfcdfdnlgfebmaaGreatDoorViDif
import Derived.Test.YtfcdfdnlgfebmaaGreatDoorViLen
set_option linter.unusedVariables false
set_option linter.unusedSimpArgs false
set_option linter.unnecessarySimpa false
set_option linter.unusedSectionVars false
set_option linter.unusedSimpArgs false
set_option maxRecDepth 100000
namespace Go.Proofs.YtfcdfdnlgfebmaaGreatDoor
open Go.Vi
noncomputable section
def qgY (c:UInt8):Bool:=decide (97≤c.toNat)&&decide (c.toNat≤122)
def qhq (c:UInt8):Bool:=decide (48≤c.toNat)&&decide (c.toNat≤57)
def nameOk (s:List UInt8):Bool:=match s with
 |[]=>false
 |c::r=>decide ((c::r).length≤12)&&(qgY c&&r.all fun c=>qgY c||qhq c)
theorem qew (c:UInt8):qcc c=(c.toNat:Int):=qe9 c
theorem qrX (c:UInt8):(ltI (qcc c) 97||ltI 122 (qcc c))= !qgY c:=by
 rw [qew,qa0,qa0,qgY]
 rw [Bool.eq_iff_iff]
 simp only [Bool.or_eq_true,decide_eq_true_eq,Bool.not_eq_true',Bool.and_eq_false_iff,decide_eq_false_iff_not]
 omega
theorem qsi (c:UInt8):(ltI (qcc c) 48||ltI 57 (qcc c))= !qhq c:=by
 rw [qew,qa0,qa0,qhq]
 rw [Bool.eq_iff_iff]
 simp only [Bool.or_eq_true,decide_eq_true_eq,Bool.not_eq_true',Bool.and_eq_false_iff,decide_eq_false_iff_not]
 omega
def qiM (av:List Bool) (c:UInt8):Bool:=qh av (qcc c) false
theorem ql7 (N:Nat) (av:List Bool) (c:UInt8):qai N (av,(qcc c,()))=some ((qiM av c,()),(av,())):=by
 simp only [qai]
 rw [qB (by rw [qew,qcz]; have:=c.toNat_lt; simp; omega)]
 rfl
theorem qp3 (N:Nat) (av:List Bool) (s:List UInt8) (hN:s.length<N):qbr N (s,(av,()))=some ((s.dropWhile (qiM av),()),(av,())):=by
 simp only [qbr]
 refine qdo (S:=(List UInt8)×((List Bool)×Unit)) (R:=((List UInt8)×Unit)×((List Bool)×Unit)) (fun p=>p.1.length) (fun p=>p.2.1=av) (fun p=>((p.1.dropWhile (qiM av),()),(av,()))) ?_ N _ rfl hN
 rintro ih ⟨s,av',_⟩ h2 hih
 simp only at h2 hih⊢
 subst h2
 cases s with
 |nil=>rw [qE (by rw [qa0,qi]; rfl)]; rfl
 |cons c r=>
  have hg:qh (c::r) 0 0=c:=qh2 (i:=0) rfl
  rw [qB (by rw [qa0,qi]; simp)]
  simp only [hg,ql7,qg,qj,Bool.and_true]
  rw [qB (show inB 0 (qn (c::r))=true from qU (i:=0) (by simp))]
  by_cases h:qiM av' c=true
  ·rw [qE (by simp [h]),qB (show inS 1 (qn (c::r)) (qn (c::r))=true from qt0 (i:=1) (by simp)),show qau (c::r) 1 (qn (c::r))=r from qqT _ 1,hih (r,(av',())) rfl (by simp)]
   simp [List.dropWhile_cons,h]
  ·rw [qB (by simpa using h)]
   simp [List.dropWhile_cons,h]
def qkU (p:UInt8→Bool) (s:List UInt8):List UInt8:=(s.reverse.dropWhile p).reverse
theorem qrk (p:UInt8→Bool) (s:List UInt8) (c:UInt8):qkU p (s++[c])=if p c=true then qkU p s else s++[c]:=by
 simp only [qkU,List.reverse_append,List.reverse_cons,List.reverse_nil,List.nil_append,List.cons_append,List.dropWhile_cons]
 split <;> simp
theorem qoH (N:Nat) (av:List Bool) (s:List UInt8) (hN:s.length<N) (hl:s.length<4000000000000000000):qal N (s,(av,()))=some ((qkU (qiM av) s,()),(av,())):=by
 simp only [qal]
 refine qdo (S:=(List UInt8)×((List Bool)×Unit)) (R:=((List UInt8)×Unit)×((List Bool)×Unit)) (fun p=>p.1.length) (fun p=>p.2.1=av∧p.1.length<4000000000000000000) (fun p=>((qkU (qiM av) p.1,()),(av,()))) ?_ N _ ⟨rfl,hl⟩ hN
 rintro ih ⟨s,av',_⟩ ⟨h2,h3⟩ hih
 simp only at h2 h3 hih⊢
 subst h2
 rcases List.eq_nil_or_concat s with rfl|⟨r,c,rfl⟩
 ·rw [qE (by rw [qa0,qi]; rfl)]; rfl
 ·rw [List.concat_eq_append] at h3 hih⊢
  simp only [List.length_append,List.length_cons,List.length_nil] at h3
  have el:qO .i64 (qn (r++[c])) 1=(r.length:Int):=by
   have e:((r++[c]).length:Int)=(r.length:Int)+1:=by simp
   rw [qi,e,qax (by omega) (by omega)]; omega
  have hg:qh (r++[c]) (r.length:Int) 0=c:=qh2 (by simp)
  rw [qB (by rw [qa0,qi]; simp)]
  simp only [el,hg,ql7,qg,qj,Bool.and_true]
  rw [qB (qU (by simp)),qrk]
  by_cases h:qiM av' c=true
  ·rw [qE (by simp [h]),qB (by rw [qkq,qi]; simp; omega),qk7,if_pos h]
   have e:(r++[c]).take r.length=r:=by simp
   rw [e,hih (r,(av',())) ⟨rfl,by simp only; omega⟩ (by simp)]
  ·rw [qB (by simpa using h),if_neg h]
theorem qjm {p:UInt8→Bool} :(s:List UInt8)→(s.dropWhile p=[]↔s.all p=true)
 |[]=>by simp
 |c::r=>by
  rw [List.dropWhile_cons,List.all_cons]
  by_cases h:p c=true
  ·rw [if_pos h,qjm r,h]; simp
  ·rw [if_neg h]; simp [h]
theorem qjI {p:UInt8→Bool} :(s:List UInt8)→(s.dropWhile p).all p=s.all p
 |[]=>rfl
 |c::r=>by
  rw [List.dropWhile_cons]
  by_cases h:p c=true
  ·rw [if_pos h,qjI r]; simp [h]
  ·rw [if_neg h]
theorem qtO {p:UInt8→Bool} (s:List UInt8):((qkU p s).dropWhile p=[])↔s.all p=true:=by
 rw [qjm,qkU,List.all_reverse,qjI,List.all_reverse]
def qdt:List UInt8:=[97,98,99,100,101,102,103,104,105,106,107,108,109,110,111,112,113,114,115,116,117,118,119,120,121,122,48,49,50,51,52,53,54,55,56,57]
def qrr (i:Nat):List Bool:=(qdt.take i).foldl (fun av c=>av.set c.toNat true) (List.replicate 256 false)
theorem qu6:∀m:Fin 256,(qrr 36).getD m.val false=((decide (97≤m.val)&&decide (m.val≤122))||(decide (48≤m.val)&&decide (m.val≤57))):=by decide+kernel
theorem qnR:∀c∈qdt,c.toNat<128:=by decide+kernel
theorem qub (c:UInt8):qiM (qrr 36) c=(qgY c||qhq c):=by
 rw [qiM,qew,qb8,Int.toNat_natCast]
 exact qu6 ⟨c.toNat,c.toNat_lt⟩
theorem qrp (N:Nat) (hN:40<N):qab N (qdt,())=some ((qrr 36,(true,())),()):=by
 simp only [qab]
 refine qlU (S:=(List Bool)×(Int×Unit)) (fun i=>(qrr i,((i:Int),()))) 36 _ rfl ?_ ?_ (by omega)
 ·intro i hi ih
  have hl:i<qdt.length:=hi
  have hg:qh qdt (i:Int) 0=qdt[i]:=qh2 (List.getElem?_eq_getElem hl)
  have hs:=qnR qdt[i] (List.getElem_mem hl)
  rw [qB (qbC hl),qB (qU hl),hg,qE (by rw [qba,qew]; simp; omega),qB (by rw [qew,qcz]; simp; omega),q8 (by omega)]
  have e:qrr (i+1)=(qrr i).set qdt[i].toNat true:=by
   rw [qrr,qcF hl,List.foldl_append]; rfl
  simp only [e,qcd,qew,Int.toNat_natCast]
 ·intro ih
  rw [qE (qaX (show ¬36<qdt.length by decide))]
theorem qvb (N:Nat) (s:List UInt8) (hs:s≠[]) (hl:s.length<4000000000000000000) (hN:s.length+40<N):qc7 N (s,(qdt,()))=some (((qkU (qiM (qrr 36)) s).dropWhile (qiM (qrr 36)),()),()):=by
 have hrl:(qkU (qiM (qrr 36)) s).length≤s.length:=by
  have:∀(p:UInt8→Bool) (l:List UInt8),(l.dropWhile p).length≤l.length:=fun p l=>(List.dropWhile_sublist p).length_le
  rw [qkU,List.length_reverse]
  exact Nat.le_trans (this _ _) (by simp)
 simp only [qc7,qI,qrp N (by omega),qg,qj,cond_true,qoH N _ s (by omega) hl,qp3 N _ (qkU (qiM (qrr 36)) s) (by omega),Bool.and_self]
 rw [qE (by rw [qbP,qbP]; simp [hs,qdt]),qB (by rw [show eqI (qn qdt) 1=false from by rw [qbT,qi]; rfl]; rfl),qE (by rw [show eqI (qn qdt) 1=false from by rw [qbT,qi]; rfl]; rfl)]
def az:List UInt8:=[97,98,99,100,101,102,103,104,105,106,107,108,109,110,111,112,113,114,115,116,117,118,119,120,121,122]
theorem az_is:∀m:Fin 256,decide (0≤Lib.indexByte az (UInt8.ofNat m.val))=(decide (97≤m.val)&&decide (m.val≤122)):=by decide+kernel
theorem quD (c:UInt8):leI 0 (Lib.indexByte az c)=qgY c:=by
 have:=az_is ⟨c.toNat,c.toNat_lt⟩
 simp only [UInt8.ofNat_toNat] at this
 rw [qba,this,qgY]
theorem qpz (N:Nat) (c:UInt8):qbI N (az,([c],()))=some ((qgY c,()),()):=by
 simp only [qbI,qdD,qbm,qnt,qg,qj,cond_true,quD]
theorem qmR (N:Nat) (s:List UInt8) (hN:100<N):qa3 N (s,())=some ((nameOk s,()),()):=by
 simp only [qa3]
 cases s with
 |nil=>
  have e:eqS ([]:List UInt8) []=true:=by rw [qbP]; simp
  simp only [e]
  rfl
 |cons c r=>
  have e1:eqS (c::r) []=false:=by rw [qbP]; simp
  have e2:leI (qn (c::r)) 12=decide ((c::r).length≤12):=by rw [qba,qi]; exact decide_eq_decide.2 (by omega)
  have e3:inS 0 1 (qn (c::r))=true:=by rw [qi1,qi]; simp; omega
  have e4:qau (c::r) 0 1=[c]:=by rw [qb4]; rfl
  have e5:=qpz N c
  unfold az at e5
  rw [e1,e2,e3,e4,e5]
  by_cases h:(c::r).length≤12
  ·have e6:=qvb N (c::r) (by simp) (by omega) (by omega)
   unfold qdt at e6
   rw [e6]
   simp only [h,decide_true,Bool.not_false,Bool.true_and,Bool.and_true,Bool.not_true,Bool.false_or,qg,qj,Bool.or_true,cond_true]
   congr 3
   rw [qbP,nameOk]
   simp only [h,decide_true,Bool.true_and]
   have key:decide ((qkU (qiM (qrr 36)) (c::r)).dropWhile (qiM (qrr 36))=[])=(c::r).all (fun c=>qgY c||qhq c):=by
    rw [Bool.eq_iff_iff,decide_eq_true_iff,qtO]
    simp only [List.all_eq_true,qub]
   rw [key,List.all_cons]
   cases qgY c <;> simp
  ·have h':decide ((c::r).length≤12)=false:=decide_eq_false h
   rw [nameOk]
   simp only [h',Bool.and_false,Bool.false_and,Bool.not_false,Bool.true_or,Bool.and_self,cond_true]
theorem qky (N:Nat) (s:List UInt8) (hl:s.length≤4000000000000000000) (hN:s.length<N):qbs N (s,())=some ((nameOk s,()),()):=by
 simp only [qbs,qI]
 cases s with
 |nil=>
  have e1:ltI (qn ([]:List UInt8)) 1=true:=by rw [qa0,qi]; rfl
  simp [e1,nameOk]
 |cons c r=>
  have hg:qh (c::r) 0 0=c:=qh2 (i:=0) rfl
  have e1:ltI (qn (c::r)) 1=false:=by rw [qa0,qi]; simp; omega
  have e2:ltI 12 (qn (c::r))= !decide ((c::r).length≤12):=by
   rw [qa0,qi]
   by_cases h:(c::r).length≤12
   ·simp only [h,decide_true,Bool.not_true,decide_eq_false_iff_not]; omega
   ·simp only [h,decide_false,Bool.not_false,decide_eq_true_eq]; omega
  have e3:inB 0 (qn (c::r))=true:=qU (i:=0) (by simp)
  have e4:(leI 48 (qcc c)&&leI (qcc c) 57)=qhq c:=by
   rw [qew,qba,qba,qhq]
   congr 1 <;> exact decide_eq_decide.2 (by omega)
  rw [e1,e2,e3,hg,e4]
  simp only [Bool.or_true,Bool.and_self,cond_true]
  by_cases h:(c::r).length≤12
  ·simp only [h,decide_true,Bool.not_true,Bool.or_self,Bool.false_or]
   by_cases hd:qhq c=true
   ·have hlow:qgY c=false:=by
     simp only [qhq,qgY,Bool.and_eq_true,decide_eq_true_eq] at hd⊢
     simp; omega
    rw [hd,cond_true,nameOk,hlow]
    simp
   ·have hd:qhq c=false:=by simpa using hd
    rw [hd,cond_false]
    refine (qaj (S:=Int×Unit) (R:=(Bool×Unit)×Unit) (fun i=>((i:Int),())) (c::r).length (fun i=>if h:i<(c::r).length then (if qgY (c::r)[i]||qhq (c::r)[i] then none else some ()) else none) (fun _=>some ((false,()),())) (some ((true,()),())) rfl (fun i hi _ ih=> ?_) (fun _ ih=> ?_) hN).trans ?_
    rotate_left
    rotate_left
    ·have key:(q9 (fun i=>if h:i<(c::r).length then (if qgY (c::r)[i]||qhq (c::r)[i] then none else some ()) else none) (c::r).length).isNone=(c::r).all (fun c=>qgY c||qhq c):=by
      rw [Bool.eq_iff_iff,List.all_eq_true]
      constructor
      ·intro hn x hx
       obtain ⟨i,hi,rfl⟩:=List.getElem_of_mem hx
       have:=qaV (Option.isNone_iff_eq_none.1 hn) i hi
       rw [dif_pos hi] at this
       by_cases hb:(qgY (c::r)[i]||qhq (c::r)[i])=true
       ·exact hb
       ·rw [if_neg hb] at this; cases this
      ·intro ha
       rw [Option.isNone_iff_eq_none]
       cases hf:q9 (fun i=>if h:i<(c::r).length then (if qgY (c::r)[i]||qhq (c::r)[i] then none else some ()) else none) (c::r).length with
       |none=>rfl
       |some u=>
        obtain ⟨i,hi,hg,_⟩:=qcD hf
        rw [dif_pos hi,if_pos (ha _ (List.getElem_mem hi))] at hg
        cases hg
     rw [nameOk]
     simp only [h,decide_true,Bool.true_and]
     rw [List.all_cons,hd,Bool.or_false] at key
     rw [←key]
     cases q9 (fun i=>if h:i<(c::r).length then (if qgY (c::r)[i]||qhq (c::r)[i] then none else some ()) else none) (c::r).length <;> rfl
    ·have hlb:qn (qeL (c::r))=qn (c::r):=by rw [qi,qi,qdj,List.length_map]
     have hgi:qh (qeL (c::r)) (i:Int) 0=qcc (c::r)[i]:=by
      rw [qdj]
      exact qh2 (by rw [List.getElem?_map,List.getElem?_eq_getElem hi]; rfl)
     simp only
     rw [hlb,qB (qbC hi),qB (qU hi),hgi,qrX,qsi,q8 (by omega),dif_pos hi]
     cases qgY (c::r)[i] <;> cases qhq (c::r)[i] <;> rfl
    ·have hlb:qn (qeL (c::r))=qn (c::r):=by rw [qi,qi,qdj,List.length_map]
     simp only
     rw [hlb,qE (qaX (Nat.lt_irrefl _))]
  ·have h':decide ((c::r).length≤12)=false:=decide_eq_false h
   rw [nameOk]
   simp only [h',Bool.not_false,Bool.false_and,Bool.false_or,Bool.true_or,cond_true]
end
end Go.Proofs.YtfcdfdnlgfebmaaGreatDoor
namespace Go.Proofs.YtfcdfdnlgfebmaaGreatDoor
open Go.Vi
noncomputable section
theorem qqB (N:Nat) (s:List UInt8) (h:(qdC s).length≤1099511627776):qbd N (s,())=some ((qdC s,()),()):=by
 have hl:(Lib.itoa (s.length:Int)).length+1+s.length≤1099511627776:=by
  unfold qdC at h
  simp only [List.length_append,List.length_cons] at h
  omega
 simp only [qbd,qa9,qg,qj,Bool.true_and,qi s,qbE]
 rw [qsr (by omega) (by simp)]
 rw [←qi s,qsr (by rw [qi]; simp only [List.length_append,List.length_cons,List.length_nil]; omega) (by omega)]
 rw [qi]
 simp [qdC]
theorem qnM {α:Type} (f:α→List UInt8) (l:List α) (i:Nat):(((l.take i).map f).flatten).length≤((l.map f).flatten).length:=by
 have e:l.map f=(l.take i).map f++(l.drop i).map f:=by rw [←List.map_append,List.take_append_drop]
 rw [e,List.flatten_append,List.length_append]
 omega
theorem qrN {α:Type} (f:α→List UInt8) (l:List α) {i:Nat} (hi:i<l.length):((l.take (i+1)).map f).flatten=((l.take i).map f).flatten++f l[i]:=by
 rw [qcF hi,List.map_append,List.flatten_append,List.map_cons,List.map_nil,List.flatten_cons,List.flatten_nil,List.append_nil]
theorem qlZ (N:Nat) (f:qC) (hN:f.2.1.length<N) (h:(fkC f).length≤1099511627776) (hb:f.2.1.length≤1099511627776):qbo N (f,())=some ((fkC f,()),()):=by
 obtain ⟨t,cs,r,⟨⟩⟩:=f
 simp only at hN hb
 have h0:(qdC t).length+(qdC r).length+(qhk cs).length≤1099511627776:=by
  unfold fkC at h
  simp only [List.length_append] at h
  omega
 simp only [qbo,qI]
 rw [qqB N t (by omega),qqB N r (by omega)]
 simp only [qg,qj,Bool.true_and]
 rw [qB (qsr (by omega) (by omega))]
 refine qlU (S:=qbl) (fun i=>(qdC t++(qdC r++qhk (cs.take i)),((i:Int),()))) cs.length _ (by simp [qbE,qhk]) (fun i hi ih=> ?_) (fun ih=> ?_) hN
 ·have h1:(qhk (cs.take (i+1))).length≤(qhk cs).length:=qnM _ _ _
  have e1:qhk (cs.take (i+1))=qhk (cs.take i)++44::Lib.itoa cs[i]:=qrN _ _ hi
  rw [e1,List.length_append,List.length_cons] at h1
  simp only
  rw [qB (qbC hi),qU hi,cond_true,qP _ hi]
  simp only [qa9,qg,qj,Bool.true_and,qbE]
  rw [qsr (by simp) (by omega),qsr (by simp only [List.length_append]; omega) (by simp only [List.length_append,List.length_cons,List.length_nil]; omega)]
  simp only [Bool.and_self,cond_true]
  rw [q8 (by omega),e1]
  simp
 ·simp only
  rw [qE (qaX (Nat.lt_irrefl _)),List.take_length]
  rfl
theorem qfh (N:Nat) (r:List qc) (h:(qdE r).length≤1099511627776):qy N (r,())=some ((qdE r,()),()):=by
 rw [qy,if_pos h]
set_option synthInstance.maxHeartbeats 400000 in
set_option synthInstance.maxSize 4000 in
instance decTable:DecidableEq qu:=inferInstance
set_option synthInstance.maxHeartbeats 400000 in
set_option synthInstance.maxSize 4000 in
instance dec0:DecidableEq qc:=inferInstance
set_option synthInstance.maxHeartbeats 400000 in
set_option synthInstance.maxSize 4000 in
instance dec1:DecidableEq qN:=inferInstance
instance dec2:DecidableEq qC:=inferInstance
instance dec3:DecidableEq (List qN×Unit):=instDecidableEqProd
instance dec4:DecidableEq (List qC×(List qN×Unit)):=instDecidableEqProd
instance decSch:DecidableEq qe:=instDecidableEqProd
theorem qsQ (N:Nat) (xs ys:List Int) (hN:xs.length<N) (hb:xs.length≤1099511627776):qb7 N (xs,(ys,()))=some ((decide (xs=ys),()),()):=by
 simp only [qb7]
 by_cases hl:xs.length=ys.length
 ·rw [qE (by rw [qaS,qi,qi,hl]; simp)]
  exact ql0 (ne:=neI) (fun a b=>qaS a b) xs ys 0 hl hb hN
 ·rw [qB (by rw [qaS,qi,qi]; simp; omega)]
  have:xs≠ys:=fun h=>hl (by rw [h])
  simp [this]
theorem qrb (N:Nat) (a b:qC) (hN:a.2.1.length<N) (hB:N≤1099511627776):qa7 N (a,(b,()))=some ((decide (a=b),()),()):=by
 obtain ⟨a1,a2,a3,⟨⟩⟩:=a
 obtain ⟨b1,b2,b3,⟨⟩⟩:=b
 simp only at hN
 simp only [qa7,qsQ N a2 b2 hN (by omega),qg,qj,qbP,Bool.or_true,cond_true,Prod.mk.injEq,and_true,Bool.decide_and,Bool.and_assoc]
theorem qtH {α:Type} [DecidableEq α] (f:(α×(α×Unit))→Option (Bool×Unit)) (xs ys:List α) (d:α) (hf:∀a∈xs,∀b,f (a,(b,()))=some (decide (a=b),())) (N:Nat) (hN:xs.length<N) (hb:xs.length≤1099511627776):
  (bif (neI (qn xs) (qn ys)) then (some ((false,()),())) else (qZ (S:=(Int×Unit)) (R:=((Bool×Unit)×Unit)) N (fun ih0=>(fun p1=>(bif (ltI p1.1 (qn xs)) then (bif (inB p1.1 (qn xs)) then (bif (inB p1.1 (qn ys)) then (bif (qw (f ((qh xs p1.1 d),((qh ys p1.1 d),())))) then (bif (!(qp (f ((qh xs p1.1 d),((qh ys p1.1 d),()))) (false,())).1) then (some ((false,()),())) else (ih0 ((qQ .i64 p1.1 1),()))) else none) else none) else none) else (some ((true,()),()))))) (0,())))=some ((decide (xs=ys),()),()):=by
 by_cases hl:xs.length=ys.length
 ·rw [qE (by rw [qaS,qi,qi,hl]; simp)]
  have:=ql0 (ne:=fun (a b:α)=> !decide (a=b)) (fun a b=>rfl) xs ys d hl hb hN
  rw [←this]
  congr 1
  funext ih p
  by_cases hlt:ltI p.1 (qn xs)=true
  ·rw [hlt]
   simp only [cond_true]
   by_cases hin:inB p.1 (qn xs)=true
   ·have hin2:inB p.1 (qn ys)=true:=by rw [qi] at hin⊢; rw [←hl]; exact hin
    rw [hin,hin2]
    have hm:qh xs p.1 d∈xs:=by
     rw [qca,decide_eq_true_iff,qi] at hin
     rw [qb8,List.getD_eq_getElem?_getD,List.getElem?_eq_getElem (show p.1.toNat<xs.length by omega)]
     exact List.getElem_mem _
    simp only [cond_true,hf _ hm,qg,qj,Bool.and_self]
   ·simp [hin]
  ·simp [hlt]
 ·rw [qB (by rw [qaS,qi,qi]; simp; omega)]
  have:xs≠ys:=fun h=>hl (by rw [h])
  simp [this]
structure Small (N:Nat) (s:qe):Prop where
 n:N≤1099511627776
 t:s.1.length<N
 f:s.2.1.length<N
 c:s.2.2.1.length<N
 tc:∀t∈s.1,t.2.1.length<N
 tk:∀t∈s.1,t.2.2.1.length<N
 fc:∀f∈s.2.1,f.2.1.length<N
 tn:∀t∈s.1,t.1.length<N
 cn:∀t∈s.1,∀c∈t.2.1,c.1.length<N
end
end Go.Proofs.YtfcdfdnlgfebmaaGreatDoor
namespace Go.Proofs.YtfcdfdnlgfebmaaGreatDoor
open Go.Vi
noncomputable section
def atE {α:Type} (q:α→Bool) (xs:List α) (i:Nat):Option Nat:=match xs[i]? with
 |some x=>if q x=true then some i else none
 |none=>none
def qi8 {α:Type} (q:α→Bool) (xs:List α):Option Nat:=q9 (atE q xs) xs.length
theorem qhr {α:Type} {q:α→Bool} {xs:List α} {i:Nat} (h:qi8 q xs=some i):∃hi:i<xs.length,q xs[i]=true∧∀j (hj:j<i),q (xs[j]'(by omega))=false:=by
 obtain ⟨k,h1,h2,h3⟩:=qcD h
 have hk:xs[k]? =some xs[k]:=List.getElem?_eq_getElem h1
 simp only [atE,hk] at h2
 split at h2
 ·rename_i hq
  injection h2 with h2
  subst h2
  refine ⟨h1,hq,fun j hj=> ?_⟩
  have:=qaV h3 j hj
  simp only [atE,List.getElem?_eq_getElem (show j<xs.length by omega)] at this
  split at this
  ·cases this
  ·rename_i hn; simpa using hn
 ·cases h2
theorem qlb {α:Type} {q:α→Bool} {xs:List α} (h:qi8 q xs=none):∀x∈xs,q x=false:=fun x hx=>by
 obtain ⟨i,hi,rfl⟩:=List.getElem_of_mem hx
 have:=qaV h i hi
 simp only [atE,List.getElem?_eq_getElem hi] at this
 split at this
 ·cases this
 ·rename_i hn; simpa using hn
def qkT {α:Type} (q:α→Bool) (xs:List α):Int:=match qi8 q xs with
 |some i=>(i:Int)
 |none=> -1
theorem qfX {α:Type} (f:(α×Unit)→Option (Bool×Unit)) (q:α→Bool) (xs:List α) (hf:∀a∈xs,f (a,())=some (q a,())) (d:α) (N:Nat) (hN:xs.length<N) (hb:xs.length≤1099511627776):
  (qZ (S:=(Int×Unit)) (R:=((Int×Unit)×Unit)) N (fun ih0=>(fun p1=>(bif (ltI p1.1 (qn xs)) then (bif ((inB p1.1 (qn xs))&&(qw (f ((qh xs p1.1 d),())))) then (qW (qp (f ((qh xs p1.1 d),())) (false,())).1 (fun y2=>(bif y2 then (some ((p1.1,()),())) else (ih0 ((qQ .i64 p1.1 1),()))))) else none) else (some (((-1),()),()))))) (0,()))=some ((qkT q xs,()),()):=by
 refine (qaj (S:=Int×Unit) (fun i=>((i:Int),())) xs.length (atE q xs) (fun i=>some (((i:Int),()),())) (some ((-1,()),())) rfl (fun i hi _ ih=> ?_) (fun _ ih=> ?_) hN).trans ?_
 ·simp only [qI]
  rw [qB (qbC hi),qP _ hi,hf _ (List.getElem_mem hi),qg,qj,Bool.and_true,qB (qU hi),q8 (by omega)]
  simp only [atE,List.getElem?_eq_getElem hi]
  cases q xs[i] <;> rfl
 ·simp only
  rw [qE (qaX (Nat.lt_irrefl _))]
 ·rw [qkT,qi8]
  cases q9 (atE q xs) xs.length <;> rfl
theorem qqa {α:Type} (q:α→Bool) (xs:List α):qvp (qkT q xs) 0=(((qi8 q xs).getD 0:Nat):Int):=by
 rw [qkT,qno]
 cases qi8 q xs with
 |none=>rfl
 |some i=>simp only [Option.getD_some]; split <;> omega
theorem qnl {α:Type} (q:α→Bool) (xs:List α):leI 0 (qkT q xs)=(qi8 q xs).isSome:=by
 rw [qkT,qba]
 cases qi8 q xs with
 |none=>rfl
 |some i=>simp
def qmj (n:List UInt8) (c:qf):Bool:=decide (c.1=n)
def qcJ (n:List UInt8) (t:qu):Bool:=decide (t.1=n)
theorem qnJ (N:Nat) (t:qu) (n:List UInt8) (hN:t.2.1.length<N) (hB:N≤1099511627776):qbZ N (t,(n,()))=some (((((qi8 (qmj n) t.2.1).getD 0:Nat):Int),((qi8 (qmj n) t.2.1).isSome,())),()):=by
 simp only [qbZ,qI]
 have h:=qfX (fun x0=>(qhf (fun y1:((Bool×Unit)×Unit)=>(y1.1.1,())) (qbj N (x0.1,(n,()))))) (qmj n) t.2.1 (fun a _=>by simp only [qbj,qce,Option.map_some,qbP,qmj]) (([]:List UInt8),(0,(false,()))) N hN (by omega)
 rw [show qbc N (t.2.1,((fun x0=>(qhf (fun y1=>(y1.1.1,())) (qbj N (x0.1,(n,()))))),()))=some ((qkT (qmj n) t.2.1,()),()) from h]
 simp only [qg,qj,cond_true,qqa,qnl]
theorem qhp (N:Nat) (s:qe) (n:List UInt8) (hN:s.1.length<N) (hB:N≤1099511627776):qah N (s,(n,()))=some (((((qi8 (qcJ n) s.1).getD 0:Nat):Int),((qi8 (qcJ n) s.1).isSome,())),()):=by
 simp only [qah,qI]
 have h:=qfX (fun x0=>(qhf (fun y1:((Bool×Unit)×Unit)=>(y1.1.1,())) (qbt N (x0.1,(n,()))))) (qcJ n) s.1 (fun a _=>by simp only [qbt,qce,Option.map_some,qbP,qcJ]) (([]:List UInt8),(([]:List qf),(([]:List Int),()))) N hN (by omega)
 rw [show qbk N (s.1,((fun x0=>(qhf (fun y1=>(y1.1.1,())) (qbt N (x0.1,(n,()))))),()))=some ((qkT (qcJ n) s.1,()),()) from h]
 simp only [qg,qj,cond_true,qqa,qnl]
def qfW (s:qe) (n:List UInt8):Option qu:=(qi8 (qcJ n) s.1).bind fun i=>s.1[i]?
theorem qj3 (N:Nat) (s:qe) (n:List UInt8) (hN:s.1.length<N) (hB:N≤1099511627776):qx N (s,(n,()))=some ((qfW s n,()),()):=by
 simp only [qx]
 refine (qaj (S:=Int×Unit) (fun i=>((i:Int),())) s.1.length (atE (qcJ n) s.1) (fun i=>some ((s.1[i]?,()),())) (some ((none,()),())) rfl (fun i hi _ ih=> ?_) (fun _ ih=> ?_) hN).trans ?_
 ·simp only
  rw [qB (qbC hi),qU hi,qP _ hi,q8 (by omega),qbP]
  simp only [atE,List.getElem?_eq_getElem hi,qcJ,cond_true,decide_eq_true_eq]
  by_cases hq:(s.1[i]).1=n <;> simp [hq]
 ·simp only
  rw [qE (qaX (Nat.lt_irrefl _))]
 ·rw [qfW,qi8]
  cases q9 (atE (qcJ n) s.1) s.1.length <;> rfl
structure ql3 (N:Nat) (t:qu):Prop where
 n:N≤1099511627776
 m:100<N
 nm:t.1.length<N
 c:t.2.1.length<N
 k:t.2.2.1.length<N
 cn:∀c∈t.2.1,c.1.length<N
open Classical in
def qu0 (cs:List qf) (i:Nat):Option Int:=match cs[i]? with
 |none=>none
 |some c=>if nameOk c.1=false then some 23 else if c.1∈(cs.take i).map (fun c=>c.1) then some 5 else if c.2.1<1∨3<c.2.1 then some 7 else none
def qke:qf:=(([]:List UInt8),(0,(false,())))
def pkE (cs:List qf) (ks:List Int) (i:Nat):Option Int:=match ks[i]? with
 |none=>none
 |some k=>if k<0∨(cs.length:Int)≤k∨(qh cs k qke).2.2.1=true∨(0<i∧k≤ks.getD (i - 1) 0) then some 9 else none
def qrE (t:qu):Int:=if nameOk t.1=false then 23 else if t.2.1.length=0 then 3 else if 6<t.2.1.length then 2 else match q9 (qu0 t.2.1) t.2.1.length with
 |some e=>e
 |none=>match q9 (pkE t.2.1 t.2.2.1) t.2.2.1.length with
  |some e=>e
  |none=>if t.2.2.1.length=0 then 9 else 0
theorem qtW {cs:List qf} {i:Nat} (hi:i<cs.length):ltI (((qi8 (qmj (cs[i]).1) cs).getD 0:Nat):Int) (i:Int)=open Classical in decide ((cs[i]).1∈(cs.take i).map (fun c=>c.1)):=by
 rw [qaN]
 apply decide_eq_decide.2
 cases h:qi8 (qmj (cs[i]).1) cs with
 |none=>
  have:=qlb h cs[i] (List.getElem_mem hi)
  simp [qmj] at this
 |some j=>
  obtain ⟨hj,h1,h2⟩:=qhr h
  simp only [Option.getD_some]
  constructor
  ·intro hlt
   refine List.mem_map.2 ⟨cs[j],?_,by simpa [qmj] using h1⟩
   exact List.mem_take_iff_getElem.2 ⟨j,by omega,rfl⟩
  ·intro hm
   obtain ⟨c,hc,he⟩:=List.mem_map.1 hm
   obtain ⟨k,hk,rfl⟩:=List.mem_take_iff_getElem.1 hc
   have hki:k<i:=by omega
   by_cases hjk:k<j
   ·have:=h2 k hjk
    simp [qmj,he] at this
   ·omega
theorem qtn {α:Type} (xs:List α):eqI (qn xs) 0=decide (xs.length=0):=by
 rw [qbT,qi]; exact decide_eq_decide.2 (by omega)
theorem qkE {α:Type} (xs:List α) (n:Nat):ltI (n:Int) (qn xs)=decide (n<xs.length):=by
 rw [qa0,qi]; exact decide_eq_decide.2 (by omega)
theorem qps (N:Nat) (t:qu) (h:ql3 N t):qbw N (t,())=some ((qrE t,()),()):=by
 have hn:=h.n
 have hc:=h.c
 have hk:=h.k
 simp only [qbw,qI]
 rw [qky N t.1 (by have:=h.nm; omega) h.nm]
 simp only [qg,qj,cond_true,qtn,show ltI 6 (qn t.2.1)=decide (6<t.2.1.length) from qkE _ 6]
 unfold qrE
 cases h1:nameOk t.1 with
 |false=>rfl
 |true=>
  simp only [Bool.not_true,cond_false,if_false,Bool.true_eq_false]
  by_cases h2:t.2.1.length=0
  ·simp [h2]
  by_cases h3:6<t.2.1.length
  ·simp [h2,h3]
  simp only [h2,h3,decide_false,cond_false,if_false]
  refine (qaj (S:=Int×Unit) (fun i=>((i:Int),())) t.2.1.length (qu0 t.2.1) (fun e=>some ((e,()),())) (match q9 (pkE t.2.1 t.2.2.1) t.2.2.1.length with
   |some e=>some ((e,()),())
   |none=>some ((if t.2.2.1.length=0 then 9 else 0,()),())) rfl (fun i hi _ ih=> ?_) (fun _ ih=> ?_) hc).trans ?_
  ·simp only
   have hm:(t.2.1[i]).1.length<N:=h.cn _ (List.getElem_mem hi)
   rw [qB (qbC hi),qB (qU hi),qP _ hi,qky N _ (by omega) hm,qnJ N t _ hc hn,q8 (by omega)]
   simp only [qg,qj,cond_true,qtW hi,qu0,List.getElem?_eq_getElem hi]
   cases nameOk (t.2.1[i]).1 with
   |false=>rfl
   |true=>
    simp only [Bool.not_true,cond_false,if_false,Bool.true_eq_false]
    by_cases h4:(t.2.1[i]).1∈(t.2.1.take i).map (fun c=>c.1)
    ·simp only [h4,decide_true,cond_true,if_true]
    ·simp only [h4,decide_false,cond_false,if_false]
     rw [qaN,qaN,←Bool.decide_or,qa6]
     split <;> rfl
  ·simp only
   rw [qE (qaX (Nat.lt_irrefl _))]
   refine (qaj (S:=Int×Unit) (fun i=>((i:Int),())) t.2.2.1.length (pkE t.2.1 t.2.2.1) (fun e=>some ((e,()),())) (some ((if t.2.2.1.length=0 then 9 else 0,()),())) rfl (fun i hi _ ih=> ?_) (fun _ ih=> ?_) hk).trans ?_
   ·simp only
    rw [qB (qbC hi),qB (qU hi),qP _ hi,q8 (by omega)]
    simp only [pkE,List.getElem?_eq_getElem hi]
    have e1:ltI (t.2.2.1[i]) 0=decide (t.2.2.1[i]<0):=qaN _ _
    have e2:leI (qn t.2.1) (t.2.2.1[i])=decide ((t.2.1.length:Int)≤t.2.2.1[i]):=by rw [qeI,qi]
    have e3:inB (t.2.2.1[i]) (qn t.2.1)=(decide (0≤t.2.2.1[i])&&decide (t.2.2.1[i]<(t.2.1.length:Int))):=by rw [qcz,qi]
    have e4:ltI 0 (i:Int)=decide (0<i):=by rw [qaN]; exact decide_eq_decide.2 (by omega)
    rw [e1,e2,e3,e4]
    change (bif _ then (bif ((_||(qh t.2.1 (t.2.2.1[i]) qke).2.2.1)||_) then _ else _) else _)=_
    by_cases h4:t.2.2.1[i]<0
    ·simp [h4]
    by_cases h5:(t.2.1.length:Int)≤t.2.2.1[i]
    ·simp [h4,h5]
    have h6:0≤t.2.2.1[i]:=by omega
    have h7:t.2.2.1[i]<(t.2.1.length:Int):=by omega
    by_cases h8:0<i
    ·have e5:inB (qO .i64 (i:Int) 1) (qn t.2.2.1)=true:=by rw [qax (by omega) (by omega),qca,qi]; simp; omega
     have e6:qh t.2.2.1 (qO .i64 (i:Int) 1) 0=t.2.2.1.getD (i - 1) 0:=by
      rw [qax (by omega) (by omega),qb8,show ((i:Int) - 1).toNat=i - 1 by omega]
     rw [e5,e6,qeI]
     generalize (qh t.2.1 (t.2.2.1[i]) qke).2.2.1=bb
     generalize t.2.2.1.getD (i - 1) 0=pv
     cases bb <;> by_cases h9:t.2.2.1[i]≤pv <;> simp [h4,h5,h6,h7,h8,h9]
    ·generalize (qh t.2.1 (t.2.2.1[i]) qke).2.2.1=bb
     cases bb <;> simp [h4,h5,h6,h7,h8]
   ·simp only
    rw [qE (qaX (Nat.lt_irrefl _)),qa6]
    split <;> rfl
   ·cases q9 (pkE t.2.1 t.2.2.1) t.2.2.1.length <;> rfl
  ·cases q9 (qu0 t.2.1) t.2.1.length with
   |some e=>rfl
   |none=>cases q9 (pkE t.2.1 t.2.2.1) t.2.2.1.length <;> rfl
theorem qp9 (N:Nat) (t:qu) (h:ql3 N t):qbi N (t,())=some ((qrE t,()),()):=by
 have hn:=h.n
 have hc:=h.c
 have hk:=h.k
 have hm0:=h.m
 simp only [qbi,qI]
 rw [qmR N t.1 hm0]
 simp only [qg,qj,cond_true,qtn,show ltI 6 (qn t.2.1)=decide (6<t.2.1.length) from qkE _ 6]
 unfold qrE
 cases h1:nameOk t.1 with
 |false=>rfl
 |true=>
  simp only [Bool.not_true,cond_false,if_false,Bool.true_eq_false]
  by_cases h2:t.2.1.length=0
  ·simp [h2]
  by_cases h3:6<t.2.1.length
  ·simp [h2,h3]
  simp only [h2,h3,decide_false,cond_false,if_false]
  refine (qaj (S:=(List ((List UInt8)×Int))×(Int×Unit)) (fun i=>(qpg ((t.2.1.take i).map (fun c=>c.1)),((i:Int),()))) t.2.1.length (qu0 t.2.1) (fun e=>some ((e,()),())) (match q9 (pkE t.2.1 t.2.2.1) t.2.2.1.length with
   |some e=>some ((e,()),())
   |none=>some ((if t.2.2.1.length=0 then 9 else 0,()),())) rfl (fun i hi _ ih=> ?_) (fun _ ih=> ?_) hc).trans ?_
  ·simp only
   have hm:(t.2.1[i]).1.length<N:=h.cn _ (List.getElem_mem hi)
   have hlen:((t.2.1.take i).map (fun c=>c.1)).length<4611686018427387904:=by
    rw [List.length_map,List.length_take]; omega
   rw [qB (qbC hi),qB (qU hi),qP _ hi,qmR N _ hm0,qmL _ hlen,q8 (by omega),←qlp]
   have e0:(t.2.1.take i).map (fun c=>c.1)++[(t.2.1[i]).1]=(t.2.1.take (i+1)).map (fun c=>c.1):=by rw [qcF hi,List.map_append]; rfl
   simp only [qg,qj,cond_true,qu0,List.getElem?_eq_getElem hi,e0]
   cases nameOk (t.2.1[i]).1 with
   |false=>rfl
   |true=>
    simp only [Bool.not_true,cond_false,if_false,Bool.true_eq_false]
    by_cases h4:(t.2.1[i]).1∈(t.2.1.take i).map (fun c=>c.1)
    ·simp only [h4,decide_true,cond_true,if_true]
    ·simp only [h4,decide_false,cond_false,if_false]
     rw [qaN,qaN,←Bool.decide_or,qa6]
     split <;> rfl
  ·simp only
   rw [qE (qaX (Nat.lt_irrefl _))]
   have hprev:∀i,i≤t.2.2.1.length→q9 (pkE t.2.1 t.2.2.1) i=none→0<i→0≤t.2.2.1.getD (i - 1) 0:=fun i hi hf h0=>by
    have hlt:i - 1<t.2.2.1.length:=by omega
    have:=qaV hf (i - 1) (by omega)
    simp only [pkE,List.getElem?_eq_getElem hlt] at this
    split at this
    ·cases this
    ·rename_i hc
     simp only [not_or] at hc
     rw [List.getD_eq_getElem?_getD,List.getElem?_eq_getElem hlt]
     simp only [Option.getD_some]
     omega
   refine (qaj (S:=qaC) (fun i=>(if i=0 then -1 else t.2.2.1.getD (i - 1) 0,((i:Int),()))) t.2.2.1.length (pkE t.2.1 t.2.2.1) (fun e=>some ((e,()),())) (some ((if t.2.2.1.length=0 then 9 else 0,()),())) rfl (fun i hi hf ih=> ?_) (fun hf ih=> ?_) hk).trans ?_
   ·simp only
    rw [qB (qbC hi),qB (qU hi),qP _ hi,q8 (by omega)]
    simp only [pkE,List.getElem?_eq_getElem hi]
    have e2:leI (qn t.2.1) (t.2.2.1[i])=decide ((t.2.1.length:Int)≤t.2.2.1[i]):=by rw [qeI,qi]
    have e3:inB (t.2.2.1[i]) (qn t.2.1)=(decide (0≤t.2.2.1[i])&&decide (t.2.2.1[i]<(t.2.1.length:Int))):=by rw [qcz,qi]
    have e5:t.2.2.1.getD (i+1 - 1) 0=t.2.2.1[i]:=by
     rw [List.getD_eq_getElem?_getD,Nat.add_sub_cancel,List.getElem?_eq_getElem hi]; rfl
    rw [e2,e3,qeI]
    have hp:=hprev i (Nat.le_of_lt hi) hf
    simp only [show ¬(i+1=0) by omega,if_false,e5]
    change (bif _ then (bif (_||(qh t.2.1 (t.2.2.1[i]) qke).2.2.1) then _ else _) else _)=_
    generalize (qh t.2.1 (t.2.2.1[i]) qke).2.2.1=bb
    by_cases h8:i=0
    ·subst h8
     by_cases h4:t.2.2.1[0]<0
     ·have h6:t.2.2.1[0]≤ -1:=by omega
      simp [h4,h6]
     ·have h6:¬t.2.2.1[0]≤ -1:=by omega
      have h7:(0:Int)≤t.2.2.1[0]:=by omega
      by_cases h5:(t.2.1.length:Int)≤t.2.2.1[0]
      ·simp [h4,h5]
      ·have h9:t.2.2.1[0]<(t.2.1.length:Int):=by omega
       cases bb <;> simp [h4,h5,h6,h7,h9]
    ·have h0:0<i:=by omega
     have hp:=hp h0
     generalize t.2.2.1.getD (i - 1) 0=pv at *
     by_cases h4:t.2.2.1[i]≤pv
     ·simp [h4,h8,h0]
     ·have h6:¬t.2.2.1[i]<0:=by omega
      have h7:0≤t.2.2.1[i]:=by omega
      by_cases h5:(t.2.1.length:Int)≤t.2.2.1[i]
      ·simp [h4,h5,h8]
      ·have h9:t.2.2.1[i]<(t.2.1.length:Int):=by omega
       cases bb <;> simp [h4,h5,h6,h7,h8,h9]
   ·simp only
    rw [qE (qaX (Nat.lt_irrefl _)),qaN,qa6]
    by_cases h0:t.2.2.1.length=0
    ·simp [h0]
    ·have:=hprev _ (Nat.le_refl _) hf (by omega)
     rw [if_neg h0,if_neg h0,if_neg (by omega)]
   ·cases q9 (pkE t.2.1 t.2.2.1) t.2.2.1.length <;> rfl
  ·cases q9 (qu0 t.2.1) t.2.1.length with
   |some e=>rfl
   |none=>cases q9 (pkE t.2.1 t.2.2.1) t.2.2.1.length <;> rfl
end
end Go.Proofs.YtfcdfdnlgfebmaaGreatDoor
namespace Go.Proofs.YtfcdfdnlgfebmaaGreatDoor
open Go.Vi
noncomputable section
theorem qnf {α:Type} (q:α→Bool) (xs:List α):(qi8 q xs).isSome=xs.any q:=by
 cases h:qi8 q xs with
 |none=>
  have:=qlb h
  rw [Option.isSome_none,eq_comm,Bool.eq_false_iff]
  simp only [ne_eq,List.any_eq_true,not_exists,not_and]
  intro x hx
  rw [this x hx]
  simp
 |some i=>
  obtain ⟨hi,h1,_⟩:=qhr h
  rw [Option.isSome_some,eq_comm,List.any_eq_true]
  exact ⟨_,List.getElem_mem hi,h1⟩
def qsM (s:qe):Prop:=∀t∈s.1,∀k∈t.2.2.1,0≤k∧k<(t.2.1.length:Int)
theorem qh5 {s:qe} {n:List UInt8} {t:qu} (h:qfW s n=some t):t∈s.1:=by
 unfold qfW at h
 cases hi:qi8 (qcJ n) s.1 with
 |none=>rw [hi] at h; cases h
 |some i=>
  rw [hi] at h
  exact List.mem_of_getElem? h
theorem qf7 (s:qe) (n:List UInt8):(qi8 (qcJ n) s.1=none∧qfW s n=none)∨∃i t,qi8 (qcJ n) s.1=some i∧qfW s n=some t∧i<s.1.length∧∀d,qh s.1 (i:Int) d=t:=by
 unfold qfW
 cases h:qi8 (qcJ n) s.1 with
 |none=>exact .inl ⟨rfl,rfl⟩
 |some i=>
  obtain ⟨hi,_⟩:=qhr h
  exact .inr ⟨i,s.1[i],rfl,by simp [hi],hi,fun d=>qP d hi⟩
def fkE (t r:qu) (cs:List Int) (j:Nat):Option Int:=match cs[j]? with
 |none=>none
 |some c=>if c<0∨(t.2.1.length:Int)≤c then some 3 else if (qh t.2.1 c qke).2.1≠(qh r.2.1 (r.2.2.1.getD j 0) qke).2.1 then some 7 else none
def vFk (s:qe) (f:qC):Int:=match qfW s f.1,qfW s f.2.2.1 with
 |some t,some r=>if f.2.1.length≠r.2.2.1.length then 3 else match q9 (fkE t r f.2.1) f.2.1.length with
  |some e=>e
  |none=>0
 |_,_=>4
theorem qmV {α β:Type} (xs:List α) (ys:List β):neI (qn xs) (qn ys)=decide (xs.length≠ys.length):=by
 rw [qaS,qi,qi,←decide_not]; exact decide_eq_decide.2 (by omega)
theorem qtS (N:Nat) (s:qe) (f:qC) (hB:N≤1099511627776) (ht:s.1.length<N) (hf:f.2.1.length<N) (hv:qsM s):qaT N (s,(f,()))=some ((vFk s f,()),()):=by
 simp only [qaT,qI]
 rw [qhp N s f.1 ht hB,qhp N s f.2.2.1 ht hB]
 simp only [qg,qj,cond_true,vFk]
 rcases qf7 s f.1 with ⟨h1,h2⟩|⟨i,t,h1,h2,h3,h4⟩
 ·rw [h1,h2]; rfl
 rcases qf7 s f.2.2.1 with ⟨g1,g2⟩|⟨k,r,g1,g2,g3,g4⟩
 ·rw [g1,g2,h1,h2]; rfl
 rw [h1,h2,g1,g2]
 simp only [Option.isSome_some,Bool.not_true,Bool.or_self,cond_false,Option.getD_some,qU h3,qU g3,Bool.and_self,cond_true,h4,g4,qmV,qa6]
 by_cases hl:f.2.1.length≠r.2.2.1.length
 ·rw [if_pos hl,if_pos hl]
 rw [if_neg hl,if_neg hl]
 have hl:f.2.1.length=r.2.2.1.length:=by omega
 have hr:=hv r (qh5 g2)
 refine (qaj (S:=Int×Unit) (fun i=>((i:Int),())) f.2.1.length (fkE t r f.2.1) (fun e=>some ((e,()),())) (some ((0,()),())) rfl (fun j hj _ ih=> ?_) (fun _ ih=> ?_) hf).trans ?_
 ·simp only
  have hjr:j<r.2.2.1.length:=by omega
  have e0:r.2.2.1.getD j 0=r.2.2.1[j]:=by rw [List.getD_eq_getElem?_getD,List.getElem?_eq_getElem hjr]; rfl
  rw [qB (qbC hj),qB (qU hj),qP _ hj,q8 (by omega),qU hjr,qP _ hjr]
  simp only [fkE,List.getElem?_eq_getElem hj,e0]
  obtain ⟨q1,q2⟩:=hr _ (List.getElem_mem hjr)
  have e1:ltI (f.2.1[j]) 0=decide (f.2.1[j]<0):=qaN _ _
  have e2:leI (qn t.2.1) (f.2.1[j])=decide ((t.2.1.length:Int)≤f.2.1[j]):=by rw [qeI,qi]
  have e3:inB (f.2.1[j]) (qn t.2.1)=(decide (0≤f.2.1[j])&&decide (f.2.1[j]<(t.2.1.length:Int))):=by rw [qcz,qi]
  have e4:inB (r.2.2.1[j]) (qn r.2.1)=true:=by rw [qca,qi]; simp [q1,q2]
  rw [e1,e2,e3,e4]
  change (bif _ then _ else (bif _ then (bif neI (qh t.2.1 (f.2.1[j]) qke).2.1 (qh r.2.1 (r.2.2.1[j]) qke).2.1 then _ else _) else _))=_
  by_cases h5:f.2.1[j]<0
  ·simp [h5]
  by_cases h6:(t.2.1.length:Int)≤f.2.1[j]
  ·simp [h6]
  have h7:0≤f.2.1[j]:=by omega
  have h8:f.2.1[j]<(t.2.1.length:Int):=by omega
  simp only [h5,h6,h7,h8,decide_false,decide_true,Bool.or_self,Bool.and_self,cond_false,cond_true,or_self,if_false,qaS,←decide_not,qa6]
  split <;> rename_i hq <;> simp [hq]
 ·simp only
  rw [qE (qaX (Nat.lt_irrefl _))]
 ·cases q9 (fkE t r f.2.1) f.2.1.length <;> rfl
theorem qun (N:Nat) (s:qe) (f:qC) (hB:N≤1099511627776) (ht:s.1.length<N) (hf:f.2.1.length<N) (hv:qsM s):qaJ N (s,(f,()))=some ((vFk s f,()),()):=by
 simp only [qaJ,qI]
 rw [qj3 N s f.1 ht hB,qj3 N s f.2.2.1 ht hB]
 simp only [qg,qj,Bool.and_self,cond_true,vFk]
 cases h2:qfW s f.1 with
 |none=>rw [qkm]; rfl
 |some t=>
 cases g2:qfW s f.2.2.1 with
 |none=>rw [qkm,qg]; rfl
 |some r=>
 simp only [qg,qj,Bool.not_true,Bool.or_self,cond_false,cond_true,qmV,qa6]
 by_cases hl:f.2.1.length≠r.2.2.1.length
 ·rw [if_pos hl,if_pos hl]
 rw [if_neg hl,if_neg hl]
 have hl:f.2.1.length=r.2.2.1.length:=by omega
 have hr:=hv r (qh5 g2)
 refine (qaj (S:=Int×Unit) (fun i=>((i:Int),())) f.2.1.length (fkE t r f.2.1) (fun e=>some ((e,()),())) (some ((0,()),())) rfl (fun j hj _ ih=> ?_) (fun _ ih=> ?_) hf).trans ?_
 ·simp only
  have hjr:j<r.2.2.1.length:=by omega
  have e0:r.2.2.1.getD j 0=r.2.2.1[j]:=by rw [List.getD_eq_getElem?_getD,List.getElem?_eq_getElem hjr]; rfl
  rw [qB (qbC hj),qB (qU hj),qP _ hj,q8 (by omega),qU hjr,qP _ hjr]
  simp only [fkE,List.getElem?_eq_getElem hj,e0]
  obtain ⟨q1,q2⟩:=hr _ (List.getElem_mem hjr)
  have e1:ltI (f.2.1[j]) 0=decide (f.2.1[j]<0):=qaN _ _
  have e2:leI (qn t.2.1) (f.2.1[j])=decide ((t.2.1.length:Int)≤f.2.1[j]):=by rw [qeI,qi]
  have e3:inB (f.2.1[j]) (qn t.2.1)=(decide (0≤f.2.1[j])&&decide (f.2.1[j]<(t.2.1.length:Int))):=by rw [qcz,qi]
  have e4:inB (r.2.2.1[j]) (qn r.2.1)=true:=by rw [qca,qi]; simp [q1,q2]
  rw [e1,e2,e3,e4]
  change (bif _ then (bif _ then _ else (bif _ then (bif neI (qh t.2.1 (f.2.1[j]) qke).2.1 (qh r.2.1 (r.2.2.1[j]) qke).2.1 then _ else _) else _)) else _)=_
  by_cases h5:f.2.1[j]<0
  ·simp [h5]
  by_cases h6:(t.2.1.length:Int)≤f.2.1[j]
  ·simp [h6]
  have h7:0≤f.2.1[j]:=by omega
  have h8:f.2.1[j]<(t.2.1.length:Int):=by omega
  simp only [h5,h6,h7,h8,decide_false,decide_true,Bool.or_self,Bool.and_self,Bool.or_true,cond_false,cond_true,or_self,if_false,qaS,←decide_not,qa6]
  split <;> rename_i hq <;> simp [hq]
 ·simp only
  rw [qE (qaX (Nat.lt_irrefl _))]
 ·cases q9 (fkE t r f.2.1) f.2.1.length <;> rfl
def qrs (v:qc):Int:=
 if v.1<0∨3<v.1 then 7 else if (v.1≠3∧v.2.2.1≠[])∨((v.1=0∨v.1=3)∧v.2.1≠0) then 3
 else if (v.1=2∧(v.2.1<0∨1<v.2.1))∨1000000000000<v.2.1∨v.2.1< -1000000000000 then 1 else if 24<v.2.2.1.length then 2 else 0
theorem len24 (s:List UInt8):ltI 24 (qn s)=decide (24<s.length):=qkE s 24
theorem qoq (N:Nat) (v:qc):qan N (v,())=some ((qrs v,()),()):=by
 obtain ⟨k,n,s,⟨⟩⟩:=v
 simp only [qan,qI,qrs,qaN,qaS,qbT,qbP,qi]
 simp only [qtX,Bool.or_eq_true,Bool.and_eq_true,decide_eq_true_eq,Bool.not_eq_true',decide_eq_false_iff_not]
 grind
theorem qpc (N:Nat) (v:qc):qbJ N (v,())=some ((qrs v,()),()):=by
 obtain ⟨k,n,s,⟨⟩⟩:=v
 simp only [qbJ,qI,qrs,qaN,qaS,qbT,qbP,qi]
 simp only [qtX,Bool.or_eq_true,Bool.and_eq_true,decide_eq_true_eq,Bool.not_eq_true',decide_eq_false_iff_not]
 by_cases k0:k=0
 ·subst k0; grind
 by_cases k1:k=1
 ·subst k1; grind
 by_cases k2:k=2
 ·subst k2; grind
 by_cases k3:k=3
 ·subst k3; grind
 grind
def qrC (o:List UInt8):Bool:=decide (o=[61])||(decide (o=[60])||decide (o=[60,61]))
def qpU (v:qc):Bool:=decide (v.1=0)&&(decide (v.2.1=0)&&decide (v.2.2.1=[]))
def qtE (s:qe) (c:qN):Int:=match qfW s c.1 with
 |none=>4
 |some t=>if c.2.1<0∨(t.2.1.length:Int)≤c.2.1∨qrC c.2.2.1=false∨c.2.2.2.1< -1∨(t.2.1.length:Int)≤c.2.2.2.1∨(0≤c.2.2.2.1∧qpU c.2.2.2.2.1=false) then 3
  else if 0≤c.2.2.2.1 then (if (qh t.2.1 c.2.1 qke).2.1≠(qh t.2.1 c.2.2.2.1 qke).2.1 then 7 else 0)
  else if c.2.2.2.2.1.1≠(qh t.2.1 c.2.1 qke).2.1 then 7 else qrs c.2.2.2.2.1
theorem qoj (N:Nat) (o:List UInt8):∃b,qbB N ((0,(0,(([]:List UInt8),()))),(o,((0,(0,(([]:List UInt8),()))),())))=some ((b,(if qrC o=true then 0 else 3,())),()):=by
 simp only [qbB,qI,qbP,qbT,qrC]
 by_cases h1:o=[61]
 ·exact ⟨true,by simp [h1]⟩
 by_cases h2:o=[60]
 ·exact ⟨true,by simp [h2]⟩
 by_cases h3:o=[60,61]
 ·exact ⟨true,by simp [h3]⟩
 ·exact ⟨false,by simp [h1,h2,h3]⟩
theorem qse (N:Nat) (s:qe) (c:qN) (hB:N≤1099511627776) (ht:s.1.length<N):qaU N (s,(c,()))=some ((qtE s c,()),()):=by
 obtain ⟨b,hb⟩:=qoj N c.2.2.1
 simp only [qaU,qI]
 rw [qhp N s c.1 ht hB,hb,qpc]
 simp only [qg,qj,cond_true,qtE]
 rcases qf7 s c.1 with ⟨h1,h2⟩|⟨i,t,h1,h2,h3,h4⟩
 ·rw [h1,h2]; rfl
 rw [h1,h2]
 simp only [Option.isSome_some,Bool.not_true,cond_false,Option.getD_some,qU h3,cond_true,h4]
 obtain ⟨c1,l,o,r,v,⟨⟩⟩:=c
 simp only at *
 have e1:ltI l 0=decide (l<0):=qaN _ _
 have e2:leI (qn t.2.1) l=decide ((t.2.1.length:Int)≤l):=by rw [qeI,qi]
 have e3:neI (if qrC o=true then 0 else 3) 0= !qrC o:=by rw [qaS]; cases qrC o <;> simp
 have e4:ltI r (-1)=decide (r< -1):=qaN _ _
 have e5:leI (qn t.2.1) r=decide ((t.2.1.length:Int)≤r):=by rw [qeI,qi]
 have e6:leI 0 r=decide (0≤r):=qeI _ _
 have e7:(eqI v.1 0&&(eqI v.2.1 0&&eqS v.2.2.1 []))=qpU v:=by simp only [qbT,qbP,qpU]
 have e8:inB l (qn t.2.1)=(decide (0≤l)&&decide (l<(t.2.1.length:Int))):=by rw [qcz,qi]
 have e9:inB r (qn t.2.1)=(decide (0≤r)&&decide (r<(t.2.1.length:Int))):=by rw [qcz,qi]
 rw [e1,e2,e3,e4,e5,e6,e7,e8,e9]
 change (bif _ then _ else (bif _ then (bif _ then (bif neI (qh t.2.1 l qke).2.1 (qh t.2.1 r qke).2.1 then _ else _) else _) else (bif _ then (bif neI v.1 (qh t.2.1 l qke).2.1 then _ else _) else _)))=_
 rw [qaS,qaS]
 generalize (qh t.2.1 l qke).2.1=kl
 generalize (qh t.2.1 r qke).2.1=kr
 simp only [qtX,Bool.or_eq_true,Bool.and_eq_true,decide_eq_true_eq,Bool.not_eq_true',decide_eq_false_iff_not]
 generalize qrs v=vv
 generalize qpU v=vz
 generalize qrC o=oo
 cases vz <;> cases oo <;> grind
theorem qsR (N:Nat) (s:qe) (c:qN) (hB:N≤1099511627776) (ht:s.1.length<N):qaI N (s,(c,()))=some ((qtE s c,()),()):=by
 have hop:qb9 N (c.2.2.1,())=some ((qrC c.2.2.1,()),()):=by
  simp only [qb9,qbP,qrC,Bool.or_assoc]
 simp only [qaI,qI]
 rw [qj3 N s c.1 ht hB,hop,qoq]
 simp only [qg,qj,cond_true,qtE]
 cases h2:qfW s c.1 with
 |none=>rw [qkm]; rfl
 |some t=>
 simp only [qg,qj,Bool.not_true,cond_false,cond_true,Bool.or_true]
 obtain ⟨c1,l,o,r,v,⟨⟩⟩:=c
 simp only at *
 have e1:ltI l 0=decide (l<0):=qaN _ _
 have e2:leI (qn t.2.1) l=decide ((t.2.1.length:Int)≤l):=by rw [qeI,qi]
 have e4:ltI r (-1)=decide (r< -1):=qaN _ _
 have e5:leI (qn t.2.1) r=decide ((t.2.1.length:Int)≤r):=by rw [qeI,qi]
 have e6:neI r (-1)= !decide (r= -1):=qaS _ _
 have e7:(eqI v.1 0&&(eqI v.2.1 0&&eqS v.2.2.1 []))=qpU v:=by simp only [qbT,qbP,qpU]
 have e8:inB l (qn t.2.1)=(decide (0≤l)&&decide (l<(t.2.1.length:Int))):=by rw [qcz,qi]
 have e9:inB r (qn t.2.1)=(decide (0≤r)&&decide (r<(t.2.1.length:Int))):=by rw [qcz,qi]
 rw [e1,e2,e4,e5,e6,e7,e8,e9]
 change (bif _ then _ else (bif _ then (bif _ then (bif neI (bif _ then (qh t.2.1 r qke).2.1 else v.1) (qh t.2.1 l qke).2.1 then _ else _) else _) else _))=_
 rw [qaS]
 generalize (qh t.2.1 l qke).2.1=kl
 generalize (qh t.2.1 r qke).2.1=kr
 simp only [qtX,Bool.or_eq_true,Bool.and_eq_true,decide_eq_true_eq,Bool.not_eq_true',decide_eq_false_iff_not]
 generalize qrs v=vv
 generalize qpU v=vz
 generalize qrC o=oo
 cases vz <;> cases oo <;> grind
def qqH (ts:List qu) (i:Nat):Option Int:=match ts[i]? with
 |none=>none
 |some t=>if qrE t≠0 then some (qrE t) else if 0<i∧qfY (qh ts ((i:Int) - 1) (([]:List UInt8),(([]:List qf),(([]:List Int),())))).1 t.1=false then some 6 else none
open Classical in
def fkL (s:qe) (i:Nat):Option Int:=match s.2.1[i]? with
 |none=>none
 |some f=>if vFk s f≠0 then some (vFk s f) else if f∈s.2.1.take i then some 5 else none
open Classical in
def qqu (s:qe) (i:Nat):Option Int:=match s.2.2.1[i]? with
 |none=>none
 |some c=>if qtE s c≠0 then some (qtE s c) else if c∈s.2.2.1.take i then some 5 else none
def qpi (s:qe):Int:=if 6<s.1.length∨8<s.2.1.length∨8<s.2.2.1.length then 2 else match q9 (qqH s.1) s.1.length with
 |some e=>e
 |none=>match q9 (fkL s) s.2.1.length with
  |some e=>e
  |none=>match q9 (qqu s) s.2.2.1.length with
   |some e=>e
   |none=>0
theorem qpb {s:qe} (h:q9 (qqH s.1) s.1.length=none):qsM s:=fun t ht k hk=>by
 obtain ⟨i,hi,rfl⟩:=List.getElem_of_mem ht
 have:=qaV h i hi
 simp only [qqH,List.getElem?_eq_getElem hi] at this
 split at this
 ·cases this
 rename_i hv
 have hv:qrE s.1[i]=0:=by simpa using hv
 unfold qrE at hv
 split at hv
 ·cases hv
 split at hv
 ·cases hv
 split at hv
 ·cases hv
 split at hv
 ·rename_i e he
  obtain ⟨j,h1,h2,_⟩:=qcD he
  simp only [qu0,List.getElem?_eq_getElem h1] at h2
  subst hv
  split at h2
  ·cases h2
  split at h2
  ·cases h2
  split at h2 <;> cases h2
 split at hv
 ·rename_i e he
  obtain ⟨j,h1,h2,_⟩:=qcD he
  simp only [pkE,List.getElem?_eq_getElem h1] at h2
  subst hv
  split at h2 <;> cases h2
 rename_i hpk
 obtain ⟨j,hj,rfl⟩:=List.getElem_of_mem hk
 have:=qaV hpk j hj
 simp only [pkE,List.getElem?_eq_getElem hj] at this
 split at this
 ·cases this
 ·rename_i hc
  simp only [not_or] at hc
  omega
structure qg8 (N:Nat) (s:qe):Prop where
 sm:Small N s
 m:100<N
theorem qg8.tab {N:Nat} {s:qe} (h:qg8 N s) {t:qu} (ht:t∈s.1):ql3 N t:=
 ⟨h.sm.n,h.m,h.sm.tn t ht,h.sm.tc t ht,h.sm.tk t ht,h.sm.cn t ht⟩
theorem gt3 (s:qe):((ltI 6 (qn s.1)||ltI 8 (qn s.2.1))||ltI 8 (qn s.2.2.1))=decide (6<s.1.length∨8<s.2.1.length∨8<s.2.2.1.length):=by
 rw [show ltI 6 (qn s.1)=decide (6<s.1.length) from qkE _ 6,show ltI 8 (qn s.2.1)=decide (8<s.2.1.length) from qkE _ 8,show ltI 8 (qn s.2.2.1)=decide (8<s.2.2.1.length) from qkE _ 8,←Bool.decide_or,←Bool.decide_or]
 exact decide_eq_decide.2 or_assoc
theorem qsk (N:Nat) (xs:List qN) (c:qN) (hN:xs.length<N) (hb:xs.length≤1099511627776):qaH N (xs,(c,()))=some ((qkT (fun x=>decide (c=x)) xs,()),()):=by
 simp only [qaH]
 refine (qaj (S:=Int×Unit) (fun i=>((i:Int),())) xs.length (atE (fun x=>decide (c=x)) xs) (fun i=>some (((i:Int),()),())) (some ((-1,()),())) rfl (fun i hi _ ih=> ?_) (fun _ ih=> ?_) hN).trans ?_
 ·simp only
  rw [qB (qbC hi),qB (qU hi),qP _ hi,q8 (by omega)]
  simp only [atE,List.getElem?_eq_getElem hi]
  generalize xs[i]=x
  obtain ⟨a1,a2,a3,a4,⟨a5,a6,a7,⟨⟩⟩,⟨⟩⟩:=c
  obtain ⟨b1,b2,b3,b4,⟨b5,b6,b7,⟨⟩⟩,⟨⟩⟩:=x
  simp only [qbP,qbT,Prod.mk.injEq,and_true,←Bool.decide_and,qa6,decide_eq_true_eq]
  split <;> rename_i hq <;> simp [hq]
 ·simp only
  rw [qE (qaX (Nat.lt_irrefl _))]
 ·rw [qkT,qi8]
  cases q9 (atE (fun x=>decide (c=x)) xs) xs.length <;> rfl
theorem qoF (N:Nat) (xs:List qN) (c:qN) (hN:xs.length<N) (hb:xs.length≤1099511627776):qat N (xs,(c,()))=some ((decide (c∈xs),()),()):=by
 simp only [qat,qsk N xs c hN hb,qg,qj,cond_true,qnl,qnf]
 congr 3
 rw [Bool.eq_iff_iff]
 simp
theorem qpG (N:Nat) (xs:List qC) (f:qC) (hN:xs.length<N) (hB:N≤1099511627776) (hc:∀x∈xs,x.2.1.length<N):
  qad N (xs,((fun x6=>(qhf (fun y7=>(y7.1.1,())) (qbh N (x6.1,(f,()))))),()))=some ((decide (f∈xs),()),()):=by
 simp only [qad]
 have h:=qfX (fun x6=>(qhf (fun y7:((Bool×Unit)×Unit)=>(y7.1.1,())) (qbh N (x6.1,(f,()))))) (fun x=>decide (x=f)) xs (fun a ha=>by simp only [qbh,qrb N a f (hc a ha) hB,qg,qj,cond_true,qce,Option.map_some]) (([]:List UInt8),(([]:List Int),(([]:List UInt8),()))) N hN (by omega)
 rw [show qaO N (xs,((fun x6=>(qhf (fun y7=>(y7.1.1,())) (qbh N (x6.1,(f,()))))),()))=some ((qkT (fun x=>decide (x=f)) xs,()),()) from h]
 simp only [qg,qj,cond_true,qnl,qnf]
 congr 3
 rw [Bool.eq_iff_iff]
 simp
theorem qtv (N:Nat) (s:qe) (h:qg8 N s):qcj N (s,())=some ((qpi s,()),()):=by
 have hn:=h.sm.n
 have ht:=h.sm.t
 have hf:=h.sm.f
 have hc:=h.sm.c
 simp only [qcj,qI,gt3,qa6]
 unfold qpi
 by_cases h0:6<s.1.length∨8<s.2.1.length∨8<s.2.2.1.length
 ·rw [if_pos h0,if_pos h0]
 rw [if_neg h0,if_neg h0]
 refine (qaj (S:=Int×Unit) (fun i=>((i:Int),())) s.1.length (qqH s.1) (fun e=>some ((e,()),())) (some ((match q9 (fkL s) s.2.1.length with
  |some e=>e
  |none=>match q9 (qqu s) s.2.2.1.length with
   |some e=>e
   |none=>0,()),())) rfl (fun i hi _ ih=> ?_) (fun hk ih=> ?_) ht).trans ?_
 ·simp only
  rw [qB (qbC hi),qB (qU hi),qP _ hi,qps N _ (h.tab (List.getElem_mem hi)),q8 (by omega)]
  simp only [qg,qj,cond_true,qqH,List.getElem?_eq_getElem hi,qaS,←decide_not,qa6]
  by_cases h1:qrE s.1[i]=0
  ·have e4:ltI 0 (i:Int)=decide (0<i):=by rw [qaN]; exact decide_eq_decide.2 (by omega)
   rw [if_neg (by simp [h1]),if_neg (by simp [h1]),e4]
   by_cases h8:0<i
   ·have e5:qO .i64 (i:Int) 1=(i:Int) - 1:=qax (by omega) (by omega)
    have e6:inB ((i:Int) - 1) (qn s.1)=true:=by rw [qca,qi]; simp; omega
    rw [e5,e6,qp8]
    cases qfY (qh s.1 ((i:Int) - 1) (([]:List UInt8),(([]:List qf),(([]:List Int),())))).1 (s.1[i]).1 <;> simp [h8]
   ·simp [h8]
  ·rw [if_pos h1,if_pos h1]
 ·simp only
  have hv:=qpb hk
  rw [qE (qaX (Nat.lt_irrefl _))]
  refine (qaj (S:=Int×Unit) (fun i=>((i:Int),())) s.2.1.length (fkL s) (fun e=>some ((e,()),())) (some ((match q9 (qqu s) s.2.2.1.length with
   |some e=>e
   |none=>0,()),())) rfl (fun i hi _ ih=> ?_) (fun _ ih=> ?_) hf).trans ?_
  ·simp only
   rw [qB (qbC hi),qB (qU hi),qP _ hi,qtS N s _ hn ht (h.sm.fc _ (List.getElem_mem hi)) hv,q8 (by omega),qk7,qpG N (s.2.1.take i) _ (by rw [List.length_take]; omega) hn (fun x hx=>h.sm.fc x (List.mem_of_mem_take hx))]
   have e5:inS 0 (i:Int) (qn s.2.1)=true:=by rw [qi1,qi]; simp; omega
   simp only [qg,qj,cond_true,fkL,List.getElem?_eq_getElem hi,qaS,←decide_not,qa6,e5,Bool.and_self]
   by_cases h1:vFk s s.2.1[i]=0
   ·simp only [h1,ne_eq,not_true_eq_false,if_false]
    by_cases h2:s.2.1[i]∈s.2.1.take i
    ·rw [if_pos h2,if_pos h2]
    ·rw [if_neg h2,if_neg h2]
   ·rw [if_pos h1,if_pos h1]
  ·simp only
   rw [qE (qaX (Nat.lt_irrefl _))]
   refine (qaj (S:=Int×Unit) (fun i=>((i:Int),())) s.2.2.1.length (qqu s) (fun e=>some ((e,()),())) (some ((0,()),())) rfl (fun i hi _ ih=> ?_) (fun _ ih=> ?_) hc).trans ?_
   ·simp only
    rw [qB (qbC hi),qB (qU hi),qP _ hi,qse N s _ hn ht,q8 (by omega),qk7,qoF N (s.2.2.1.take i) _ (by rw [List.length_take]; omega) (by rw [List.length_take]; omega)]
    have e5:inS 0 (i:Int) (qn s.2.2.1)=true:=by rw [qi1,qi]; simp; omega
    simp only [qg,qj,cond_true,qqu,List.getElem?_eq_getElem hi,qaS,←decide_not,qa6,e5,Bool.and_self]
    by_cases h1:qtE s s.2.2.1[i]=0
    ·simp only [h1,ne_eq,not_true_eq_false,if_false]
     by_cases h2:s.2.2.1[i]∈s.2.2.1.take i
     ·rw [if_pos h2,if_pos h2]
     ·rw [if_neg h2,if_neg h2]
    ·rw [if_pos h1,if_pos h1]
   ·simp only
    rw [qE (qaX (Nat.lt_irrefl _))]
   ·cases q9 (qqu s) s.2.2.1.length <;> rfl
  ·cases q9 (fkL s) s.2.1.length <;> rfl
 ·cases q9 (qqH s.1) s.1.length <;> rfl
theorem fk_ids (xs:List qC) (f:qC):fkC f∈xs.map fkC↔f∈xs:=by
 constructor
 ·intro h
  obtain ⟨x,hx,he⟩:=List.mem_map.1 h
  rw [qsa he] at hx
  exact hx
 ·exact fun h=>List.mem_map_of_mem h
theorem qr9 (N:Nat) (s:qe) (h:qg8 N s) (hid:∀f∈s.2.1,(fkC f).length≤1099511627776):qaf N (s,())=some ((qpi s,()),()):=by
 have hn:=h.sm.n
 have ht:=h.sm.t
 have hf:=h.sm.f
 have hc:=h.sm.c
 simp only [qaf,qI,gt3,qa6]
 unfold qpi
 by_cases h0:6<s.1.length∨8<s.2.1.length∨8<s.2.2.1.length
 ·rw [if_pos h0,if_pos h0]
 rw [if_neg h0,if_neg h0]
 refine (qaj (S:=Int×Unit) (fun i=>((i:Int),())) s.1.length (qqH s.1) (fun e=>some ((e,()),())) (some ((match q9 (fkL s) s.2.1.length with
  |some e=>e
  |none=>match q9 (qqu s) s.2.2.1.length with
   |some e=>e
   |none=>0,()),())) rfl (fun i hi _ ih=> ?_) (fun hk ih=> ?_) ht).trans ?_
 ·simp only
  rw [qB (qbC hi),qB (qU hi),qP _ hi,qp9 N _ (h.tab (List.getElem_mem hi)),q8 (by omega)]
  simp only [qg,qj,cond_true,qqH,List.getElem?_eq_getElem hi,qaS,←decide_not,qa6]
  by_cases h1:qrE s.1[i]=0
  ·have e4:ltI 0 (i:Int)=decide (0<i):=by rw [qaN]; exact decide_eq_decide.2 (by omega)
   rw [if_neg (by simp [h1]),if_neg (by simp [h1]),e4]
   by_cases h8:0<i
   ·have e5:qO .i64 (i:Int) 1=(i:Int) - 1:=qax (by omega) (by omega)
    have e6:inB ((i:Int) - 1) (qn s.1)=true:=by rw [qca,qi]; simp; omega
    rw [e5,e6]
    cases qfY (qh s.1 ((i:Int) - 1) (([]:List UInt8),(([]:List qf),(([]:List Int),())))).1 (s.1[i]).1 <;> simp [h8]
   ·simp [h8]
  ·rw [if_pos h1,if_pos h1]
 ·simp only
  have hv:=qpb hk
  rw [qE (qaX (Nat.lt_irrefl _))]
  refine (qaj (S:=(List ((List UInt8)×Int))×(Int×Unit)) (fun i=>(qpg ((s.2.1.take i).map fkC),((i:Int),()))) s.2.1.length (fkL s) (fun e=>some ((e,()),())) (some ((match q9 (qqu s) s.2.2.1.length with
   |some e=>e
   |none=>0,()),())) rfl (fun i hi _ ih=> ?_) (fun _ ih=> ?_) hf).trans ?_
  ·simp only
   have hm:=List.getElem_mem hi
   have hlen:((s.2.1.take i).map fkC).length<4611686018427387904:=by rw [List.length_map,List.length_take]; omega
   have q:=h.sm.fc _ hm
   rw [qB (qbC hi),qB (qU hi),qP _ hi,qun N s _ hn ht q hv,q8 (by omega),qlZ N _ q (hid _ hm) (by omega)]
   simp only [qg,qj,cond_true]
   rw [qmL _ hlen,←qlp]
   have e0:(s.2.1.take i).map fkC++[fkC s.2.1[i]]=(s.2.1.take (i+1)).map fkC:=by rw [qcF hi,List.map_append]; rfl
   simp only [fkL,List.getElem?_eq_getElem hi,qaS,←decide_not,qa6,e0,fk_ids]
   by_cases h1:vFk s s.2.1[i]=0
   ·simp only [h1,ne_eq,not_true_eq_false,if_false]
    by_cases h2:s.2.1[i]∈s.2.1.take i
    ·rw [if_pos h2,if_pos h2]
    ·rw [if_neg h2,if_neg h2]
   ·rw [if_pos h1,if_pos h1]
  ·simp only
   rw [qE (qaX (Nat.lt_irrefl _))]
   refine (qaj (S:=Int×Unit) (fun i=>((i:Int),())) s.2.2.1.length (qqu s) (fun e=>some ((e,()),())) (some ((0,()),())) rfl (fun i hi _ ih=> ?_) (fun _ ih=> ?_) hc).trans ?_
   ·simp only
    rw [qB (qbC hi),qB (qU hi),qP _ hi,qsR N s _ hn ht,q8 (by omega),qk7]
    have e5:inS 0 (i:Int) (qn s.2.2.1)=true:=by rw [qi1,qi]; simp; omega
    simp only [qg,qj,cond_true,qqu,List.getElem?_eq_getElem hi,qaS,←decide_not,qa6,e5]
    by_cases h1:qtE s s.2.2.1[i]=0
    ·simp only [h1,ne_eq,not_true_eq_false,if_false]
     have hlt:(s.2.2.1.take i).length<N:=by rw [List.length_take]; omega
     refine (qaj (S:=Int×Unit) (fun j=>((j:Int),())) (s.2.2.1.take i).length (atE (fun x=>decide (x=s.2.2.1[i])) (s.2.2.1.take i)) (fun _=>some ((5,()),())) (ih (((i+1:Nat):Int),())) rfl (fun j hj _ ih2=> ?_) (fun _ ih2=> ?_) hlt).trans ?_
     ·simp only
      rw [qB (qbC hj),qB (qU hj),qP _ hj,q8 (by omega)]
      simp only [atE,List.getElem?_eq_getElem hj]
      generalize (s.2.2.1.take i)[j]=x
      generalize s.2.2.1[i]=c
      obtain ⟨a1,a2,a3,a4,⟨a5,a6,a7,⟨⟩⟩,⟨⟩⟩:=c
      obtain ⟨b1,b2,b3,b4,⟨b5,b6,b7,⟨⟩⟩,⟨⟩⟩:=x
      simp only [qbP,qbT,Prod.mk.injEq,and_true,←Bool.decide_and,qa6,decide_eq_true_eq]
      split <;> rename_i hq <;> simp [hq]
     ·simp only
      rw [qE (qaX (Nat.lt_irrefl _))]
     ·have e6:=qnf (fun x=>decide (x=s.2.2.1[i])) (s.2.2.1.take i)
      unfold qi8 at e6
      by_cases h2:s.2.2.1[i]∈s.2.2.1.take i
      ·have:(s.2.2.1.take i).any (fun x=>decide (x=s.2.2.1[i]))=true:=by simp only [List.any_eq_true,decide_eq_true_eq]; exact ⟨_,h2,rfl⟩
       rw [this] at e6
       obtain ⟨k,hk⟩:=Option.isSome_iff_exists.1 e6
       rw [hk,if_pos h2]
      ·have:(s.2.2.1.take i).any (fun x=>decide (x=s.2.2.1[i]))=false:=by
        rw [List.any_eq_false]
        intro x hx he
        rw [decide_eq_true_eq] at he
        subst he
        exact h2 hx
       rw [this] at e6
       have hk:q9 (atE (fun x=>decide (x=s.2.2.1[i])) (s.2.2.1.take i)) (s.2.2.1.take i).length=none:=by simpa using e6
       rw [hk,if_neg h2]
    ·rw [if_pos h1,if_pos h1]
   ·simp only
    rw [qE (qaX (Nat.lt_irrefl _))]
   ·cases q9 (qqu s) s.2.2.1.length <;> rfl
  ·cases q9 (fkL s) s.2.1.length <;> rfl
 ·cases q9 (qqH s.1) s.1.length <;> rfl
end
end Go.Proofs.YtfcdfdnlgfebmaaGreatDoor
namespace Go.Proofs.YtfcdfdnlgfebmaaGreatDoor
open Go.Vi
noncomputable section
theorem qiu (N:Nat) (x y:Int):qaD N (x,(y,()))=some ((ic x y,()),()):=by
 simp only [qaD,qI,qa0,condO,decide_eq_true_eq,ic]
 split
 ·rfl
 ·split <;> rfl
theorem qra (N:Nat) (a b:List UInt8):qci N (a,(b,()))=some ((Lib.compareBytes a b,()),()):=by
 simp only [qci,qaR,qI,qg,qj,cond_true]
theorem qm8 (N:Nat) (a b:qc):qb2 N (a,(b,()))=some ((vc a b,()),()):=by
 simp only [qb2,qI,qiu,qra,qg,qj,cond_true,qaS,condO,Bool.not_eq_true',decide_eq_false_iff_not,vc]
 split
 ·rfl
 ·split <;> rfl
theorem qvd (N:Nat) (a b:qc):qa4 N (a,(b,()))=some ((decide (vc a b<0),()),()):=by
 simp only [qa4,qI,qaS,qa0,qjU]
 have h1:=qbe a.1 b.1
 have h2:=qbe a.2.1 b.2.1
 by_cases e1:a.1=b.1
 ·have f1:ic a.1 b.1=0:=by omega
  by_cases e2:a.2.1=b.2.1
  ·have f2:ic a.2.1 b.2.1=0:=by omega
   have:vc a b=Lib.compareBytes a.2.2.1 b.2.2.1:=by simp [vc,f1,f2]
   simp [e1,e2,this]
  ·have f2:ic a.2.1 b.2.1≠0:=by omega
   have h3:vc a b=ic a.2.1 b.2.1:=by simp [vc,f1,f2]
   have h4:a.2.1<b.2.1↔vc a b<0:=by omega
   simp [e1,e2,h4]
 ·have f1:ic a.1 b.1≠0:=by omega
  have h3:vc a b=ic a.1 b.1:=by simp [vc,f1]
  have h4:a.1<b.1↔vc a b<0:=by omega
  simp [e1,h4]
theorem qiv (N:Nat) (xs ys:qaG) (hN:xs.length<N) (hB:N≤1099511627776):qJ N (xs,(ys,()))=some ((qH xs ys,()),()):=by
 simp only [qJ,qI,qiu,qm8,qg,qj,cond_true,Bool.and_true]
 refine qdo (S:=Int×Unit) (R:=(Int×Unit)×Unit) (fun p=>xs.length - p.1.toNat) (fun p=>∃i:Nat,p.1=(i:Int)∧i≤xs.length∧i≤ys.length∧qH (xs.drop i) (ys.drop i)=qH xs ys) (fun _=>((qH xs ys,()),())) ?_ N _ ⟨0,rfl,Nat.zero_le _,Nat.zero_le _,rfl⟩ (by simp; omega)
 rintro ih ⟨_,_⟩ ⟨i,rfl,hx,hy,he⟩ hih
 simp only [Int.toNat_natCast] at hih⊢
 by_cases h:i<xs.length∧i<ys.length
 ·obtain ⟨h1,h2⟩:=h
  rw [qB (by rw [qa0,qkZ,qi,qi]; simp; omega),qU h1,qU h2,qP _ h1,qP _ h2]
  simp only [Bool.and_self,cond_true]
  rw [List.drop_eq_getElem_cons h1,List.drop_eq_getElem_cons h2,qH] at he
  by_cases hv:vc xs[i] ys[i]=0
  ·rw [if_neg (fun h=>h hv)] at he
   rw [qE (by rw [qaS,hv]; rfl),q8 (by omega)]
   exact hih _ ⟨i+1,rfl,h1,h2,he⟩ (by simp only [Int.toNat_natCast]; omega)
  ·rw [if_pos hv] at he
   rw [qB (by rw [qaS]; simp [hv]),he]
 ·rw [qE (by rw [qa0,qkZ,qi,qi]; simp; omega)]
  rw [qmX xs ys i h hx hy] at he
  rw [qi,qi,he]
theorem qfa (N:Nat) (xs ys:qaG) (hN:xs.length<N) (hB:N≤1099511627776):qD N (xs,(ys,()))=some ((qH xs ys,()),()):=by
 simp only [qD,qI,qvd,qg,qj,cond_true,Bool.and_true]
 refine qdo (S:=Int×Unit) (R:=(Int×Unit)×Unit) (fun p=>xs.length - p.1.toNat) (fun p=>∃i:Nat,p.1=(i:Int)∧i≤xs.length∧i≤ys.length∧qH (xs.drop i) (ys.drop i)=qH xs ys) (fun _=>((qH xs ys,()),())) ?_ N _ ⟨0,rfl,Nat.zero_le _,Nat.zero_le _,rfl⟩ (by simp; omega)
 rintro ih ⟨_,_⟩ ⟨i,rfl,hx,hy,he⟩ hih
 simp only [Int.toNat_natCast] at hih⊢
 by_cases h:i<xs.length∧i<ys.length
 ·obtain ⟨h1,h2⟩:=h
  rw [qbC h1,qbC h2,qU h1,qU h2,qP _ h1,qP _ h2]
  simp only [Bool.and_self,cond_true]
  rw [List.drop_eq_getElem_cons h1,List.drop_eq_getElem_cons h2,qH] at he
  have hs:=qsl xs[i] ys[i]
  rcases qqo xs[i] ys[i] with hv|hv|hv
  ·rw [if_pos (by omega)] at he
   rw [qB (by rw [hv]; rfl),←he,hv]
  ·rw [if_neg (fun h=>h hv)] at he
   rw [qE (by rw [hv]; rfl),qE (by rw [hs,hv]; rfl),q8 (by omega)]
   exact hih _ ⟨i+1,rfl,h1,h2,he⟩ (by simp only [Int.toNat_natCast]; omega)
  ·rw [if_pos (by omega)] at he
   rw [qE (by rw [hv]; rfl),qB (by rw [hs,hv]; rfl),←he,hv]
 ·rw [qE (by
   rw [qa0,qa0,qi,qi]
   simp only [Bool.and_eq_false_iff,decide_eq_false_iff_not]
   omega)]
  rw [qmX xs ys i h hx hy] at he
  rw [qi,qi,←he]
  have:=qbe (xs.length:Int) (ys.length:Int)
  rcases this with ⟨h1,h2⟩|⟨h1,h2⟩|⟨h1,h2⟩
  ·rw [qB (by rw [qa0]; simp; omega),h2]
  ·rw [qE (by rw [qa0]; simp; omega),qE (by rw [qa0]; simp; omega),h2]
  ·rw [qE (by rw [qa0]; simp; omega),qB (by rw [qa0]; simp; omega),h2]
theorem qsI (N:Nat) (pk:List Int) (row:qaG) (hN:pk.length<N) (hb:pk.length≤1099511627776):
  qZ (S:=((List qc)×(Int×Unit))) (R:=(((List qc)×Unit)×Unit)) N (fun ih0=>(fun p1=>(bif (ltI p1.2.1 (qn pk)) then (bif (inB p1.2.1 (qn pk)) then (qW ((leI 0 (qh pk p1.2.1 0))&&(ltI (qh pk p1.2.1 0) (qn row))) (fun y2=>(bif (bif y2 then (inB (qh pk p1.2.1 0) (qn row)) else true) then (qW (bif y2 then (qh row (qh pk p1.2.1 0) (0,(0,(([]:List UInt8),())))) else (0,(0,(([]:List UInt8),())))) (fun y3=>(bif (qcI (qn p1.1) (qn ([y3]:List qc)) 32) then (ih0 ((qf3 p1.1 ([y3]:List qc)),((qQ .i64 p1.2.1 1),()))) else none))) else none))) else none) else (some ((p1.1,()),()))))) (([]:List qc),(0,()))=some ((qaA pk row,()),()):=by
 simp only [qI]
 refine qlU (S:=((List qc)×(Int×Unit))) (fun i=>(qaA (pk.take i) row,((i:Int),()))) pk.length _ (by simp [qaA]) (fun i hi ih=> ?_) (fun ih=> ?_) hN
 ·have e1:qaA (pk.take (i+1)) row=qaA (pk.take i) row++[qlR row pk[i]]:=by unfold qaA; rw [qcF hi,List.map_append]; rfl
  have e2:(bif (leI 0 pk[i]&&ltI pk[i] (qn row)) then qh row pk[i] (0,(0,(([]:List UInt8),()))) else (0,(0,(([]:List UInt8),()))))=qlR row pk[i]:=by
   unfold qlR
   by_cases h:0≤pk[i]∧pk[i]<(row.length:Int)
   ·rw [dif_pos h,qB (by rw [qba,qa0,qi]; simp; exact h)]
    obtain ⟨k,hk⟩:∃k:Nat,pk[i]=(k:Int):=⟨pk[i].toNat,by omega⟩
    have hk':k<row.length:=by omega
    simp only [hk,Int.toNat_natCast]
    exact qP _ hk'
   ·rw [dif_neg h,qE (by rw [qba,qa0,qi]; simp; omega)]
  have e3:(bif (leI 0 pk[i]&&ltI pk[i] (qn row)) then inB pk[i] (qn row) else true)=true:=by
   cases hc:(leI 0 pk[i]&&ltI pk[i] (qn row)) with
   |false=>rfl
   |true=>
    rw [qba,qa0,qi] at hc
    rw [cond_true,qcz,qi]
    simpa using hc
  simp only
  rw [qB (qbC hi),qU hi,cond_true,qP _ hi,e3,cond_true,e2,qB (qeX (by rw [qeR,List.length_take]; simp; omega)),q8 (by omega),qbE,e1]
 ·simp only
  rw [qE (qaX (Nat.lt_irrefl _)),List.take_length]
theorem quW (N:Nat) (t:qu) (row:qaG) (hN:t.2.2.1.length<N) (hB:N≤1099511627776):qA N (t,(row,()))=some ((qaA t.2.2.1 row,()),()):=qsI N t.2.2.1 row hN (by omega)
theorem qnL (N:Nat) (t:qu) (row:qaG) (hN:t.2.2.1.length<N) (hB:N≤1099511627776):qac N (t,(row,()))=some ((qaA t.2.2.1 row,()),()):=by
 have h:qcv N (row,(t.2.2.1,()))=some ((qaA t.2.2.1 row,()),()):=qsI N t.2.2.1 row hN (by omega)
 simp only [qac,h,qg,qj,cond_true]
theorem qo4 (N:Nat) (rows:List qaG) (f:qaG→Int) (φ:(qaG×Unit)→Option (Bool×Unit)) (hφ:∀r,φ (r,())=some (decide (0≤f r),())) (hN2:rows.length<N) (hB:N≤1099511627776):
  qa1 N (rows,(φ,()))=some (((if (qc5 f rows).1<rows.length then ((qc5 f rows).1:Int) else -1),()),()):=by
 simp only [qa1,qI,hφ,qg,qj,Bool.and_true]
 refine qdo (S:=Int×Unit) (R:=(Int×Unit)×Unit) (fun p=>rows.length - p.1.toNat) (fun p=>∃i:Nat,p.1=(i:Int)∧i≤rows.length∧qc5 f rows=(i+(qc5 f (rows.drop i)).1,(qc5 f (rows.drop i)).2)) (fun _=>(((if (qc5 f rows).1<rows.length then ((qc5 f rows).1:Int) else -1),()),())) ?_ N _ ⟨0,rfl,Nat.zero_le _,by simp⟩ (by simp; omega)
 rintro ih ⟨_,_⟩ ⟨i,rfl,h2,h3⟩ hih
 simp only [Int.toNat_natCast] at hih⊢
 by_cases hi:i<rows.length
 ·rw [qB (qbC hi),qU hi,cond_true,qP _ hi]
  rw [List.drop_eq_getElem_cons hi,qc5] at h3
  by_cases h:0≤f rows[i]
  ·rw [if_pos h] at h3
   rw [qB (by simp [h]),h3]
   simp [hi]
  ·rw [if_neg h] at h3
   rw [qE (by simp [h]),q8 (by omega)]
   exact hih _ ⟨i+1,rfl,hi,by rw [h3]; simp; omega⟩ (by simp only [Int.toNat_natCast]; omega)
 ·rw [qE (qaX hi)]
  rw [List.drop_of_length_le (by omega)] at h3
  rw [h3]
  have:¬(i+(qc5 f []).1<rows.length):=by simp [qc5]; omega
  simp [this]
theorem qsG (N:Nat) (xs:qaG) (h:xs.length≤1099511627776):qaa N (xs,())=some ((xs,()),()):=qs8 xs 32 (by omega)
theorem qt5 (N:Nat) (xs ys:qaG) (hN:xs.length<N) (hb:xs.length≤1099511627776):qaQ N (xs,(ys,()))=some ((decide (xs=ys),()),()):=by
 simp only [qaQ]
 by_cases hl:xs.length=ys.length
 ·rw [qE (by rw [qaS,qi,qi,hl]; simp)]
  refine ql0 (ne:=fun (a b:qc)=> !((eqI a.1 b.1)&&((eqI a.2.1 b.2.1)&&(eqS a.2.2.1 b.2.2.1)))) (fun a b=> ?_) xs ys (0,(0,(([]:List UInt8),()))) hl hb hN
  obtain ⟨a1,a2,a3,⟨⟩⟩:=a
  obtain ⟨b1,b2,b3,⟨⟩⟩:=b
  simp only [qbP,qbT,Prod.mk.injEq,and_true,Bool.decide_and]
 ·rw [qB (by rw [qaS,qi,qi]; simp; omega)]
  have:xs≠ys:=fun h=>hl (by rw [h])
  simp [this]
end
end Go.Proofs.YtfcdfdnlgfebmaaGreatDoor
namespace Go.Proofs.YtfcdfdnlgfebmaaGreatDoor
open Go.Vi
noncomputable section
theorem qd2 {g:Nat→Option Int} {n:Nat} (h:∀i e,g i=some e→e≠0) {z:Int} (hz:(match q9 g n with
  |some e=>e
  |none=>z)=0):q9 g n=none∧z=0:=by
 cases hf:q9 g n with
 |none=>rw [hf] at hz; exact ⟨rfl,hz⟩
 |some e=>
  rw [hf] at hz
  obtain ⟨i,_,h2,_⟩:=qcD hf
  exact absurd hz (h i e h2)
theorem qts (ts:List qu):∀i e,qqH ts i=some e→e≠0:=fun i e h=>by
 unfold qqH at h
 split at h
 ·cases h
 split at h
 ·rename_i hv; injection h with h; subst h; exact hv
 split at h
 ·injection h with h; subst h; decide
 ·cases h
theorem qt4 (s:qe):∀i e,fkL s i=some e→e≠0:=fun i e h=>by
 unfold fkL at h
 split at h
 ·cases h
 split at h
 ·rename_i hv; injection h with h; subst h; exact hv
 split at h
 ·injection h with h; subst h; decide
 ·cases h
theorem qs4 (s:qe):∀i e,qqu s i=some e→e≠0:=fun i e h=>by
 unfold qqu at h
 split at h
 ·cases h
 split at h
 ·rename_i hv; injection h with h; subst h; exact hv
 split at h
 ·injection h with h; subst h; decide
 ·cases h
theorem qur (t r:qu) (cs:List Int):∀i e,fkE t r cs i=some e→e≠0:=fun i e h=>by
 unfold fkE at h
 split at h
 ·cases h
 split at h
 ·injection h with h; subst h; decide
 split at h
 ·injection h with h; subst h; decide
 ·cases h
structure qka (s:qe):Prop where
 tabs:q9 (qqH s.1) s.1.length=none
 few:s.1.length≤6
 fks:∀f∈s.2.1,vFk s f=0
 cons:∀c∈s.2.2.1,qtE s c=0
theorem valid_of {s:qe} (h:qpi s=0):qka s:=by
 unfold qpi at h
 split at h
 ·cases h
 rename_i h0
 obtain ⟨h1,h⟩:=qd2 (qts s.1) h
 obtain ⟨h2,h⟩:=qd2 (qt4 s) h
 obtain ⟨h3,_⟩:=qd2 (qs4 s) h
 refine ⟨h1,by omega,fun f hf=> ?_,fun c hc=> ?_⟩
 ·obtain ⟨i,hi,rfl⟩:=List.getElem_of_mem hf
  have:=qaV h2 i hi
  simp only [fkL,List.getElem?_eq_getElem hi] at this
  split at this
  ·cases this
  ·rename_i hv; simpa using hv
 ·obtain ⟨i,hi,rfl⟩:=List.getElem_of_mem hc
  have:=qaV h3 i hi
  simp only [qqu,List.getElem?_eq_getElem hi] at this
  split at this
  ·cases this
  ·rename_i hv; simpa using hv
theorem qpE {a b c:List UInt8} (h1:qfY a b=true) (h2:qfY b c=true):qfY a c=true:=by
 rw [qjU,decide_eq_true_eq] at *
 exact qnX a b c h1 h2
theorem qrO (a:List UInt8):qfY a a=false:=by
 rw [qjU,(qnu a a).2 rfl]; rfl
theorem qka.names {s:qe} (h:qka s):s.1.Pairwise (fun a b=>qfY a.1 b.1=true):=
 qlH (fun a b:qu=>qfY a.1 b.1=true) (fun _ _ _ h1 h2=>qpE h1 h2) s.1 fun i hi=>by
  have:=qaV h.tabs (i+1) hi
  simp only [qqH,List.getElem?_eq_getElem hi] at this
  split at this
  ·cases this
  split at this
  ·cases this
  rename_i hq
  have e:((i+1:Nat):Int) - 1=(i:Int):=by omega
  rw [e,qP _ (show i<s.1.length by omega)] at hq
  simpa using hq
theorem qka.self {s:qe} (h:qka s) {i:Nat} (hi:i<s.1.length):qi8 (qcJ (s.1[i]).1) s.1=some i:=by
 cases hx:qi8 (qcJ (s.1[i]).1) s.1 with
 |none=>
  have:=qlb hx _ (List.getElem_mem hi)
  simp [qcJ] at this
 |some j=>
  obtain ⟨hj,h1,h2⟩:=qhr hx
  by_cases hij:j=i
  ·rw [hij]
  ·have hji:j<i:=by
    by_cases hlt:i<j
    ·have:=h2 i hlt
     simp [qcJ] at this
    ·omega
   have:=List.pairwise_iff_getElem.1 h.names j i hj hi hji
   have e:(s.1[j]).1=(s.1[i]).1:=by simpa [qcJ] using h1
   rw [e,qrO] at this
   cases this
theorem qka.fk {s:qe} (h:qka s) {f:qC} (hf:f∈s.2.1):∃t r,qfW s f.1=some t∧qfW s f.2.2.1=some r∧f.2.1.length=r.2.2.1.length∧∀c∈f.2.1,0≤c∧c<(t.2.1.length:Int):=by
 have:=h.fks f hf
 unfold vFk at this
 split at this
 ·rename_i t r h1 h2
  split at this
  ·cases this
  rename_i hl
  obtain ⟨h3,_⟩:=qd2 (qur t r f.2.1) this
  refine ⟨t,r,h1,h2,by omega,fun c hc=> ?_⟩
  obtain ⟨j,hj,rfl⟩:=List.getElem_of_mem hc
  have:=qaV h3 j hj
  simp only [fkE,List.getElem?_eq_getElem hj] at this
  split at this
  ·cases this
  ·omega
 ·cases this
theorem qka.con {s:qe} (h:qka s) {c:qN} (hc:c∈s.2.2.1):∃t,qfW s c.1=some t∧0≤c.2.1∧c.2.1<(t.2.1.length:Int)∧qrC c.2.2.1=true∧ -1≤c.2.2.2.1∧c.2.2.2.1<(t.2.1.length:Int):=by
 have:=h.cons c hc
 unfold qtE at this
 split at this
 ·cases this
 rename_i t ht
 split at this
 ·cases this
 rename_i hn
 simp only [not_or] at hn
 exact ⟨t,ht,by omega,by omega,by simpa using hn.2.2.1,by omega,by omega⟩
abbrev qez:Type:=List UInt8×(List qaG×Unit)
def qpM (t:qu) (row:qaG) (i:Nat):Option Int:=match row[i]? with
 |none=>none
 |some v=>if qrs v≠0 then some (qrs v) else if v.1=0∧(qh t.2.1 (i:Int) qke).2.2.1=false then some 8 else if v.1≠0∧v.1≠(qh t.2.1 (i:Int) qke).2.1 then some 7 else none
def qsK (t:qu) (row:qaG):Int:=if row.length≠t.2.1.length then 3 else match q9 (qpM t row) row.length with
 |some e=>e
 |none=>0
theorem qsH (N:Nat) (t:qu) (row:qaG) (hN:row.length<N) (hB:N≤1099511627776):qbx N (t,(row,()))=some ((qsK t row,()),()):=by
 simp only [qbx,qI,qmV,qa6]
 unfold qsK
 by_cases h0:row.length≠t.2.1.length
 ·rw [if_pos h0,if_pos h0]
 rw [if_neg h0,if_neg h0]
 have hl:row.length=t.2.1.length:=by omega
 refine (qaj (S:=Int×Unit) (fun i=>((i:Int),())) row.length (qpM t row) (fun e=>some ((e,()),())) (some ((0,()),())) rfl (fun i hi _ ih=> ?_) (fun _ ih=> ?_) hN).trans ?_
 ·simp only
  have hit:i<t.2.1.length:=by omega
  rw [qB (qbC hi),qB (qU hi),qP _ hi,qpc,q8 (by omega),qU hit]
  simp only [qg,qj,cond_true,qpM,List.getElem?_eq_getElem hi,qP _ hit,qaS,qbT,←decide_not,Bool.or_true]
  generalize qrs row[i]=vv
  generalize (t.2.1[i]).2.2.1=nb
  generalize (t.2.1[i]).2.1=ck
  generalize (row[i]).1=rk
  by_cases q1:vv=0 <;> by_cases q2:rk=0 <;> by_cases q3:rk=ck <;> cases nb <;> first|(simp [q1,q2,q3]; done)|(subst q3; simp [q1,q2])
 ·simp only
  rw [qE (qaX (Nat.lt_irrefl _))]
 ·cases q9 (qpM t row) row.length <;> rfl
theorem qsc (N:Nat) (t:qu) (row:qaG) (hN:row.length<N) (hB:N≤1099511627776):qby N (t,(row,()))=some ((qsK t row,()),()):=by
 simp only [qby,qI,qmV,qa6]
 unfold qsK
 by_cases h0:row.length≠t.2.1.length
 ·rw [if_pos h0,if_pos h0]
 rw [if_neg h0,if_neg h0]
 have hl:row.length=t.2.1.length:=by omega
 refine (qaj (S:=Int×Unit) (fun i=>((i:Int),())) row.length (qpM t row) (fun e=>some ((e,()),())) (some ((0,()),())) rfl (fun i hi _ ih=> ?_) (fun _ ih=> ?_) hN).trans ?_
 ·simp only
  have hit:i<t.2.1.length:=by omega
  rw [qB (qbC hi),qB (qU hi),qP _ hi,qoq,q8 (by omega),qU hit]
  simp only [qg,qj,cond_true,qpM,List.getElem?_eq_getElem hi,qP _ hit,qaS,qbT,←decide_not,Bool.or_true]
  generalize qrs row[i]=vv
  generalize (t.2.1[i]).2.2.1=nb
  generalize (t.2.1[i]).2.1=ck
  generalize (row[i]).1=rk
  by_cases q1:vv=0 <;> by_cases q2:rk=0 <;> by_cases q3:rk=ck <;> cases nb <;> first|(simp [q1,q2,q3]; done)|(subst q3; simp [q1,q2])
 ·simp only
  rw [qE (qaX (Nat.lt_irrefl _))]
 ·cases q9 (qpM t row) row.length <;> rfl
abbrev relD:qez:=(([]:List UInt8),(([]:List qaG),()))
abbrev qvs:qu:=(([]:List UInt8),(([]:List qf),(([]:List Int),())))
def qmq (t:qu) (rows:List qaG) (i:Nat):Option Int:=match rows[i]? with
 |none=>none
 |some row=>if qsK t row≠0 then some (qsK t row) else if 0<i∧qH (qaA t.2.2.1 (qh rows ((i:Int) - 1) [])) (qaA t.2.2.1 row)=0 then some 9 else if 0<i∧0<qH (qaA t.2.2.1 (qh rows ((i:Int) - 1) [])) (qaA t.2.2.1 row) then some 6 else none
def qtK (ts:List qu) (rels:List qez) (i:Nat):Option Int:=match rels[i]? with
 |none=>none
 |some r=>if r.1≠(qh ts (i:Int) qvs).1 then some 3 else if 24<r.2.1.length then some 2 else q9 (qmq (qh ts (i:Int) qvs) r.2.1) r.2.1.length
def qgI (s:qe) (rels:List qez):Int:=if rels.length≠s.1.length then 3 else match q9 (qtK s.1 rels) rels.length with
 |some e=>e
 |none=>0
structure qiq (N:Nat) (rels:List qez):Prop where
 n:rels.length<N
 rows:∀r∈rels,r.2.1.length<N
 row:∀r∈rels,∀x∈r.2.1,x.length<N
 enc:∀r∈rels,∀x∈r.2.1,(qdE x).length≤1099511627776
theorem quV {α:Type} (xs:List α):ltI 24 (qn xs)=decide (24<xs.length):=qkE xs 24
theorem qhv:(a b:qaG)→qH a b= -1∨qH a b=0∨qH a b=1
 |[],ys=>by have:=qbe 0 (ys.length:Int); simp only [qH]; omega
 |_::xs,[]=>by have:=qbe ((xs.length:Int)+1) 0; simp only [qH]; omega
 |x::xs,y::ys=>by
  have h1:=qqo x y
  have h2:=qhv xs ys
  simp only [qH]
  split <;> assumption
theorem qmQ (N:Nat) (s:qe) (rels:List qez) (hs:qg8 N s) (hr:qiq N rels):qbY N (s,(rels,()))=some ((qgI s rels,()),()):=by
 have hn:=hs.sm.n
 have hrn:=hr.n
 simp only [qbY,qI,qmV,qa6]
 unfold qgI
 by_cases h0:rels.length≠s.1.length
 ·rw [if_pos h0,if_pos h0]
 rw [if_neg h0,if_neg h0]
 have hl:rels.length=s.1.length:=by omega
 refine (qaj (S:=Int×Unit) (fun i=>((i:Int),())) rels.length (qtK s.1 rels) (fun e=>some ((e,()),())) (some ((0,()),())) rfl (fun i hi _ ih=> ?_) (fun _ ih=> ?_) hr.n).trans ?_
 ·have hit:i<s.1.length:=by omega
  have hm:=List.getElem_mem hi
  have ht:ql3 N s.1[i]:=hs.tab (List.getElem_mem hit)
  have hrows:=hr.rows _ hm
  have hrow:=hr.row _ hm
  simp only [qP _ hi,qP _ hit,qbC hi,qU hi,qU hit,cond_true,qtK,List.getElem?_eq_getElem hi,q8 (show i<4611686018427387904 by omega)]
  generalize hrel:rels[i]=rel at *
  generalize htab:s.1[i]=t at *
  simp only [qbP,←decide_not,qa6,quV]
  by_cases h1:rel.1=t.1
  ·have h1':¬(rel.1≠t.1):=fun h=>h h1
   rw [if_neg h1']; try rw [if_neg h1']
   by_cases h2:24<rel.2.1.length
   ·rw [if_pos h2]; try rw [if_pos h2]
   rw [if_neg h2]; try rw [if_neg h2]
   refine qaj (S:=Int×Unit) (fun k=>((k:Int),())) rel.2.1.length (qmq t rel.2.1) (fun e=>some ((e,()),())) _ rfl (fun k hk _ ih2=> ?_) (fun _ ih2=> ?_) hrows
   ·have hrk:=hrow _ (List.getElem_mem hk)
    have hcmp:∀a b:qaG,qJ N (qaA t.2.2.1 a,(qaA t.2.2.1 b,()))=some ((qH (qaA t.2.2.1 a) (qaA t.2.2.1 b),()),()):=fun a b=>qiv N _ _ (by rw [qeR]; exact ht.k) hn
    simp only [qP _ hk,qbC hk,qU hk,cond_true,qsH N t _ hrk hn,qg,qj,qaS,qbT,qaN,quW N t _ ht.k hn,hcmp,q8 (show k<4611686018427387904 by omega),qmq,List.getElem?_eq_getElem hk,qa6,Bool.and_true]
    by_cases h3:qsK t rel.2.1[k]=0
    ·simp only [h3,decide_true,Bool.not_true,cond_false,ne_eq,not_true_eq_false,if_false]
     by_cases h8:0<k
     ·have e5:qO .i64 (k:Int) 1=(k:Int) - 1:=qax (by omega) (by omega)
      have e6:inB ((k:Int) - 1) (qn rel.2.1)=true:=by rw [qca,qi]; simp; omega
      rw [e5,e6,if_neg (by omega),cond_true]
      have c:=qhv (qaA t.2.2.1 (qh rel.2.1 ((k:Int) - 1) [])) (qaA t.2.2.1 rel.2.1[k])
      generalize qH (qaA t.2.2.1 (qh rel.2.1 ((k:Int) - 1) [])) (qaA t.2.2.1 rel.2.1[k])=cc at *
      by_cases c0:cc=0
      ·simp [c0,h8]
      ·by_cases c1:0<cc
       ·simp [c0,c1,h8]
       ·simp [c0,c1,h8]
     ·rw [if_pos (by omega)]
      simp [h8]
    ·simp only [h3,decide_false,Bool.not_false,cond_true,ne_eq,not_false_eq_true,if_true]
   ·simp only
    rw [qE (qaX (Nat.lt_irrefl _))]
  ·rw [if_pos h1]; try rw [if_pos h1]
 ·simp only
  rw [qE (qaX (Nat.lt_irrefl _))]
 ·cases q9 (qtK s.1 rels) rels.length <;> rfl
theorem qmP (N:Nat) (s:qe) (rels:List qez) (hs:qg8 N s) (hr:qiq N rels):qX N (s,(rels,()))=some ((qgI s rels,()),()):=by
 have hn:=hs.sm.n
 have hrn:=hr.n
 simp only [qX,qI,qmV,qa6]
 unfold qgI
 by_cases h0:rels.length≠s.1.length
 ·rw [if_pos h0,if_pos h0]
 rw [if_neg h0,if_neg h0]
 have hl:s.1.length=rels.length:=by omega
 rw [←hl]
 refine (qaj (S:=Int×Unit) (fun i=>((i:Int),())) s.1.length (qtK s.1 rels) (fun e=>some ((e,()),())) (some ((0,()),())) rfl (fun i hit _ ih=> ?_) (fun _ ih=> ?_) hs.sm.t).trans ?_
 ·have hi:i<rels.length:=by omega
  have hm:=List.getElem_mem hi
  have ht:ql3 N s.1[i]:=hs.tab (List.getElem_mem hit)
  have hrows:=hr.rows _ hm
  have hrow:=hr.row _ hm
  simp only [qP _ hi,qP _ hit,qbC hit,qU hi,qU hit,cond_true,qtK,List.getElem?_eq_getElem hi,q8 (show i<4611686018427387904 by omega)]
  generalize hrel:rels[i]=rel at *
  generalize htab:s.1[i]=t at *
  simp only [qbP,←decide_not,qa6,quV]
  by_cases h1:rel.1=t.1
  ·have h1':¬(rel.1≠t.1):=fun h=>h h1
   rw [if_neg h1']; try rw [if_neg h1']
   by_cases h2:24<rel.2.1.length
   ·rw [if_pos h2]; try rw [if_pos h2]
   rw [if_neg h2]; try rw [if_neg h2]
   refine qaj (S:=qaG×(Int×Unit)) (fun k=>((if 0<k then qaA t.2.2.1 (qh rel.2.1 ((k:Int) - 1) []) else []),((k:Int),()))) rel.2.1.length (qmq t rel.2.1) (fun e=>some ((e,()),())) _ rfl (fun k hk _ ih2=> ?_) (fun _ ih2=> ?_) hrows
   ·have hrk:=hrow _ (List.getElem_mem hk)
    have hnx:(if 0<k+1 then qaA t.2.2.1 (qh rel.2.1 (((k+1:Nat):Int) - 1) []) else [])=qaA t.2.2.1 rel.2.1[k]:=by
     rw [if_pos (by omega),show ((k+1:Nat):Int) - 1=(k:Int) by omega,qP _ hk]
    rw [hnx]
    simp only [qP _ hk,qbC hk,qU hk,cond_true,qsc N t _ hrk hn,qg,qj,qaS,qbT,qaN,qnL N t _ ht.k hn,q8 (show k<4611686018427387904 by omega),qmq,List.getElem?_eq_getElem hk,qa6,Bool.and_true]
    by_cases h3:qsK t rel.2.1[k]=0
    ·simp only [h3,decide_true,Bool.not_true,cond_false,ne_eq,not_true_eq_false,if_false]
     by_cases h8:0<k
     ·rw [if_pos h8,if_pos (show (0:Int)<(k:Int) by omega)]
      have hcmp:∀a b:qaG,qD N (qaA t.2.2.1 a,(qaA t.2.2.1 b,()))=some ((qH (qaA t.2.2.1 a) (qaA t.2.2.1 b),()),()):=fun a b=>qfa N _ _ (by rw [qeR]; exact ht.k) hn
      simp only [hcmp,qg,qj,cond_true]
      have c:=qhv (qaA t.2.2.1 (qh rel.2.1 ((k:Int) - 1) [])) (qaA t.2.2.1 rel.2.1[k])
      generalize qH (qaA t.2.2.1 (qh rel.2.1 ((k:Int) - 1) [])) (qaA t.2.2.1 rel.2.1[k])=cc at *
      by_cases c0:cc=0
      ·simp [c0,h8]
      ·by_cases c1:cc=1
       ·simp [c1,h8]
       ·have:¬0<cc:=by omega
        simp [c0,c1,this]
     ·rw [if_neg (show ¬(0:Int)<(k:Int) by omega)]
      simp [h8]
    ·simp only [h3,decide_false,Bool.not_false,cond_true,ne_eq,not_false_eq_true,if_true]
   ·simp only
    rw [qE (qaX (Nat.lt_irrefl _))]
  ·rw [if_pos h1]; try rw [if_pos h1]
 ·simp only
  rw [qE (qaX (Nat.lt_irrefl _))]
 ·cases q9 (qtK s.1 rels) s.1.length <;> rfl
theorem qt9 {t:qu} {row:qaG} (h:qsK t row=0):row.length=t.2.1.length:=by
 unfold qsK at h
 split at h
 ·cases h
 ·omega
theorem qrc (t:qu) (rows:List qaG):∀i e,qmq t rows i=some e→e≠0:=fun i e h=>by
 unfold qmq at h
 split at h
 ·cases h
 split at h
 ·rename_i hv; injection h with h; subst h; exact hv
 split at h
 ·injection h with h; subst h; decide
 split at h
 ·injection h with h; subst h; decide
 ·cases h
theorem qr1 (ts:List qu) (rels:List qez):∀i e,qtK ts rels i=some e→e≠0:=fun i e h=>by
 unfold qtK at h
 split at h
 ·cases h
 split at h
 ·injection h with h; subst h; decide
 split at h
 ·injection h with h; subst h; decide
 ·obtain ⟨j,_,h2,_⟩:=qcD h
  exact qrc _ _ j e h2
structure qvu (s:qe) (rels:List qez):Prop where
 len:rels.length=s.1.length
 name:∀i (hi:i<rels.length) (ht:i<s.1.length),(rels[i]).1=(s.1[i]).1
 row:∀i (hi:i<rels.length) (ht:i<s.1.length),∀r∈(rels[i]).2.1,r.length=(s.1[i]).2.1.length
 sorted:∀i (hi:i<rels.length) (ht:i<s.1.length),(rels[i]).2.1.Pairwise (fun a b=>qH (qaA (s.1[i]).2.2.1 a) (qaA (s.1[i]).2.2.1 b)<0)
theorem qnA {s:qe} {rels:List qez} (h:qgI s rels=0):qvu s rels:=by
 unfold qgI at h
 split at h
 ·cases h
 rename_i h0
 obtain ⟨h1,_⟩:=qd2 (qr1 s.1 rels) h
 have key:∀i (hi:i<rels.length) (ht:i<s.1.length),(rels[i]).1=(s.1[i]).1∧q9 (qmq s.1[i] (rels[i]).2.1) (rels[i]).2.1.length=none:=fun i hi ht=>by
  have:=qaV h1 i hi
  simp only [qtK,List.getElem?_eq_getElem hi,qP _ ht] at this
  split at this
  ·cases this
  rename_i hq
  split at this
  ·cases this
  exact ⟨by simpa using hq,this⟩
 refine ⟨by omega,fun i hi ht=>(key i hi ht).1,fun i hi ht r hr=> ?_,fun i hi ht=> ?_⟩
 ·obtain ⟨k,hk,rfl⟩:=List.getElem_of_mem hr
  have:=qaV (key i hi ht).2 k hk
  simp only [qmq,List.getElem?_eq_getElem hk] at this
  split at this
  ·cases this
  rename_i hv
  exact qt9 (by simpa using hv)
 ·refine qlH (fun a b:qaG=>qH (qaA (s.1[i]).2.2.1 a) (qaA (s.1[i]).2.2.1 b)<0) (fun _ _ _ h1 h2=>qbK _ _ _ h1 h2) (rels[i]).2.1 fun k hk=> ?_
  have:=qaV (key i hi ht).2 (k+1) hk
  simp only [qmq,List.getElem?_eq_getElem hk] at this
  rw [show ((k+1:Nat):Int) - 1=(k:Int) by omega,qP _ (show k<(rels[i]).2.1.length by omega)] at this
  split at this
  ·cases this
  split at this
  ·cases this
  rename_i h3
  split at this
  ·cases this
  rename_i h4
  have c:=qhv (qaA (s.1[i]).2.2.1 (rels[i]).2.1[k]) (qaA (s.1[i]).2.2.1 (rels[i]).2.1[k+1])
  have h3':=fun h=>h3 ⟨Nat.succ_pos _,h⟩
  have h4':=fun h=>h4 ⟨Nat.succ_pos _,h⟩
  omega
def qjE (s:qe) (rels:List qez) (n:List UInt8):List qaG:=match qi8 (qcJ n) s.1 with
 |none=>[]
 |some i=>match rels[i]? with
  |none=>[]
  |some r=>r.2.1
def qtD (s:qe) (n:List UInt8):qu:=(qfW s n).getD qvs
theorem qvu.at {s:qe} {rels:List qez} (h:qvu s rels) {n:List UInt8} {t:qu} (ht:qfW s n=some t):∃(i:Nat) (hi:i<s.1.length) (hr:i<rels.length),qi8 (qcJ n) s.1=some i∧s.1[i]=t∧qjE s rels n=(rels[i]).2.1∧qtD s n=t:=by
 rcases qf7 s n with ⟨_,h2⟩|⟨i,t',h1,h2,hi,h3⟩
 ·rw [h2] at ht; cases ht
 ·rw [h2] at ht
  injection ht with ht
  subst ht
  have hr:i<rels.length:=by rw [h.len]; exact hi
  refine ⟨i,hi,hr,h1,?_,?_,?_⟩
  ·have:=h3 qvs; rwa [qP _ hi] at this
  ·unfold qjE; rw [h1]; simp only [List.getElem?_eq_getElem hr]
  ·unfold qtD; rw [h2]; rfl
def anyE {α E:Type} (q:α→Bool) (e:E) (xs:List α) (i:Nat):Option E:=match xs[i]? with
 |none=>none
 |some x=>if q x=true then some e else none
theorem anyE_first {α E:Type} (q:α→Bool) (e:E) (xs:List α):q9 (anyE q e xs) xs.length=if xs.any q=true then some e else none:=by
 cases hf:q9 (anyE q e xs) xs.length with
 |none=>
  have:xs.any q=false:=by
   rw [List.any_eq_false]
   intro x hx hq
   obtain ⟨i,hi,rfl⟩:=List.getElem_of_mem hx
   have:=qaV hf i hi
   simp only [anyE,List.getElem?_eq_getElem hi,hq,if_true] at this
   cases this
  rw [this]
  rfl
 |some e'=>
  obtain ⟨i,hi,h2,_⟩:=qcD hf
  simp only [anyE,List.getElem?_eq_getElem hi] at h2
  split at h2
  ·rename_i hq
   rw [if_pos (List.any_eq_true.2 ⟨_,List.getElem_mem hi,hq⟩),h2]
  ·cases h2
theorem cellV_at (row:qaG) {i:Int} (h1:0≤i) (h2:i<(row.length:Int)):qh row i (0,(0,(([]:List UInt8),())))=qlR row i:=by
 obtain ⟨k,rfl⟩:∃k:Nat,i=(k:Int):=⟨i.toNat,by omega⟩
 have hk:k<row.length:=by omega
 rw [qP _ hk,qlR,dif_pos ⟨h1,h2⟩]
 simp only [Int.toNat_natCast]
def satB (a:qmF) (op:List UInt8) (b:qmF):Bool:=decide (a.1=0)||(decide (b.1=0)||((decide (vc a b=0)&& !decide (op=[60]))||(decide (vc a b<0)&& !decide (op=[61]))))
def satS (c:qN) (row:qaG):Bool:=satB (qlR row c.2.1) c.2.2.1 (if 0≤c.2.2.2.1 then qlR row c.2.2.2.1 else c.2.2.2.2.1)
theorem valSat_eq (N:Nat) (a b:qmF) (op:List UInt8) (h:qrC op=true):qbB N (a,(op,(b,())))=some ((satB a op b,(0,())),()):=by
 simp only [qbB,qI,qm8,qg,qj,cond_true,qbP,qbT,qaN,satB]
 unfold qrC at h
 generalize decide (a.1=0)=a0
 generalize decide (b.1=0)=b0
 generalize decide (op=[61])=o1 at *
 generalize decide (op=[60])=o2 at *
 generalize decide (op=[60,61])=o3 at *
 cases a0 <;> cases b0 <;> cases o1 <;> cases o2 <;> cases o3 <;> simp at h⊢
end
end Go.Proofs.YtfcdfdnlgfebmaaGreatDoor
namespace Go.Proofs.YtfcdfdnlgfebmaaGreatDoor
open Go.Vi
noncomputable section
def nullV (v:qmF):Bool:=decide (v.1=0)
def refS (s:qe) (rels:List qez) (f:qC) (row:qaG):Bool:=(qaA f.2.1 row).any nullV||(qjE s rels f.2.2.1).any (fun r=>decide (qaA (qtD s f.2.2.1).2.2.1 r=qaA f.2.1 row))
structure qr2 (s:qe) (rels:List qez):Prop where
 kt:∀r∈rels,∀row∈r.2.1,∀t∈s.1,(qdE (qaA t.2.2.1 row)).length≤1099511627776
 kf:∀r∈rels,∀row∈r.2.1,∀f∈s.2.1,(qdE (qaA f.2.1 row)).length≤1099511627776
theorem rowsS_sub {s:qe} {rels:List qez} {n:List UInt8} {r:qaG} (h:r∈qjE s rels n):∃q∈rels,r∈q.2.1:=by
 unfold qjE at h
 split at h
 ·cases h
 split at h
 ·cases h
 ·rename_i i _ q hq
  obtain ⟨hi,rfl⟩:=List.getElem?_eq_some_iff.1 hq
  exact ⟨_,List.getElem_mem hi,h⟩
theorem rowsS_len {N:Nat} {s:qe} {rels:List qez} (n:List UInt8) (hr:qiq N rels) (h0:0<N):(qjE s rels n).length<N:=by
 unfold qjE
 split
 ·exact h0
 split
 ·exact h0
 ·rename_i i _ q hq
  obtain ⟨hi,rfl⟩:=List.getElem?_eq_some_iff.1 hq
  exact hr.rows _ (List.getElem_mem hi)
theorem qvu.rowLen {s:qe} {rels:List qez} (h:qvu s rels) {n:List UInt8} {t:qu} (ht:qfW s n=some t) {r:qaG} (hr:r∈qjE s rels n):r.length=t.2.1.length:=by
 obtain ⟨i,hi,hri,_,e2,e3,_⟩:=h.at ht
 rw [e3] at hr
 rw [h.row i hri hi r hr,e2]
theorem qvw {pk:List Int} {rows:List qaG} (h:rows.Pairwise (fun a b=>qH (qaA pk a) (qaA pk b)<0)) (key:qaG):(qc5 (fun r=>qH (qaA pk r) key) rows).2=rows.any (fun r=>decide (qaA pk r=key)):=by
 rw [qnk _ rows (h.imp fun {a b} hab h0=> ?_)]
 ·have e:(fun r=>decide (qH (qaA pk r) key=0))=fun r=>decide (qaA pk r=key):=funext fun r=>decide_eq_decide.2 (qeP _ _)
  rw [e]
 ·have c:=qhv (qaA pk b) key
  rcases c with c|c|c
  ·have:=qbK _ _ _ hab (show qH (qaA pk b) key<0 by omega)
   omega
  ·have:=(qeP _ _).1 c
   rw [this] at hab
   omega
  ·omega
def badF (s:qe) (rels:List qez) (f:qC):Bool:=(qjE s rels f.1).any (fun r=> !refS s rels f r)
def badC (s:qe) (rels:List qez) (c:qN):Bool:=(qjE s rels c.1).any (fun r=> !satS c r)
def vInst (s:qe) (rels:List qez):Int:=if qgI s rels≠0 then qgI s rels else if s.2.1.any (badF s rels)=true then 10 else if s.2.2.1.any (badC s rels)=true then 11 else 0
end
end Go.Proofs.YtfcdfdnlgfebmaaGreatDoor
namespace Go.Proofs.YtfcdfdnlgfebmaaGreatDoor
open Go.Vi
noncomputable section
theorem rel_eq (a b:qez):(decide (a.1=b.1)&&decide (a.2.1=b.2.1))=decide (a=b):=by
 obtain ⟨a1,a2,⟨⟩⟩:=a
 obtain ⟨b1,b2,⟨⟩⟩:=b
 rw [←Bool.decide_and]
 exact decide_eq_decide.2 (by simp only [Prod.mk.injEq,and_true])
def qsz (s:qe):List qez:=s.1.map fun t=>(t.1,(([]:List qaG),()))
theorem quG {N:Nat} {s:qe} (hs:qg8 N s):qiq N (qsz s):=by
 have ht:=hs.sm.t
 have hm:=hs.m
 have key:∀r∈qsz s,r.2.1=[]:=fun r hr=>by
  obtain ⟨t,_,rfl⟩:=List.mem_map.1 hr
  rfl
 refine ⟨by unfold qsz; rw [List.length_map]; exact ht,fun r hr=>by rw [key r hr]; simp; omega,fun r hr x hx=> ?_,fun r hr x hx=> ?_⟩
 ·rw [key r hr] at hx; cases hx
 ·rw [key r hr] at hx; cases hx
theorem findIdx (s:qe) (rels:List qez) (n:List UInt8):
  (bif ((leI 0 (qkT (qcJ n) s.1))&&(ltI (qkT (qcJ n) s.1) (qn rels))) then inB (qkT (qcJ n) s.1) (qn rels) else true)=true∧
  (bif (leI 0 (qkT (qcJ n) s.1)) then inB (qkT (qcJ n) s.1) (qn s.1) else true)=true∧
  (bif ((leI 0 (qkT (qcJ n) s.1))&&(ltI (qkT (qcJ n) s.1) (qn rels))) then (qh rels (qkT (qcJ n) s.1) relD).2.1 else ([]:List qaG))=qjE s rels n∧
  (bif (leI 0 (qkT (qcJ n) s.1)) then qh s.1 (qkT (qcJ n) s.1) qvs else qvs)=qtD s n:=by
 rcases qf7 s n with ⟨h1,h2⟩|⟨i,t,h1,h2,hi,h3⟩
 ·have e:qkT (qcJ n) s.1= -1:=by rw [qkT,h1]
  have e0:leI 0 (-1)=false:=by rw [qba]; rfl
  simp only [e,e0,Bool.false_and,cond_false,qjE,h1,qtD,h2,Option.getD_none,and_self]
 ·have e:qkT (qcJ n) s.1=(i:Int):=by rw [qkT,h1]
  have e0:leI 0 (i:Int)=true:=by rw [qba]; simp
  by_cases hl:i<rels.length
  ·simp only [e,e0,qbC hl,qU hl,qU hi,Bool.and_self,cond_true,h3,qP _ hl,qjE,h1,List.getElem?_eq_getElem hl,qtD,h2,Option.getD_some,and_self]
  ·simp only [e,e0,qaX hl,qU hi,Bool.true_and,Bool.and_false,cond_true,cond_false,h3,qjE,h1,List.getElem?_eq_none (show rels.length≤i by omega),qtD,h2,Option.getD_some,and_self]
end
end Go.Proofs.YtfcdfdnlgfebmaaGreatDoor
namespace Go.Proofs.YtfcdfdnlgfebmaaGreatDoor
open Go.Vi
noncomputable section
theorem qfK {α:Type} (f:α→Nat): {l:List α} → {x:α} →x∈l→f x≤(l.map f).sum
 |y::l,x,h=>by
  rw [List.map_cons,List.sum_cons]
  rcases List.mem_cons.1 h with rfl|h
  ·omega
  ·have:=qfK f h; omega
theorem qho {α:Type} (f:α→Nat):(l:List α)→(∀x∈l,1≤f x)→l.length≤(l.map f).sum
 |[],_=>Nat.zero_le _
 |x::l,h=>by
  have h1:=h x List.mem_cons_self
  have h2:=qho f l fun y hy=>h y (List.mem_cons_of_mem _ hy)
  rw [List.map_cons,List.sum_cons,List.length_cons]; omega
theorem qnW (t:qu):qnb.bulk t=t.1.length+1+((t.2.1.map qtG.bulk).sum+1+((t.2.2.1.map (Ty.bulk (.int .i64))).sum+1+1)):=by
 obtain ⟨t1,t2,t3,⟨⟩⟩:=t; rfl
theorem qt3 (c:qf):qtG.bulk c=c.1.length+1+(1+(1+1)):=by
 obtain ⟨c1,c2,c3,⟨⟩⟩:=c; rfl
theorem qsh (f:qC):TFk.bulk f=f.1.length+1+((f.2.1.map (Ty.bulk (.int .i64))).sum+1+(f.2.2.1.length+1+1)):=by
 obtain ⟨f1,f2,f3,⟨⟩⟩:=f; rfl
theorem qtf {t:qu} (h:qnb.bulk t≤1048576):ql3 2000000 t:=by
 rw [qnW,qdG] at h
 have h1:=qho qtG.bulk t.2.1 fun c _=>qdB qtG c
 refine ⟨by omega,by omega,by omega,by omega,by omega,fun c hc=> ?_⟩
 have:=qfK qtG.bulk hc
 rw [qt3] at this
 omega
theorem qtg {s:qe} (h:qtI.bulk s≤1048576):qg8 2000000 s:=by
 obtain ⟨a,b,c,⟨⟩⟩:=s
 rw [qjo] at h
 have h1:=qho qnb.bulk a fun x _=>qdB qnb x
 have h2:=qho TFk.bulk b fun x _=>qdB TFk x
 have h3:=qho qtU.bulk c fun x _=>qdB qtU x
 have ht:∀t∈a,ql3 2000000 t:=fun t ht=>qtf (by have:=qfK qnb.bulk ht; omega)
 have hf:∀f∈b,f.2.1.length<2000000:=fun f hf=>by
  have:=qfK TFk.bulk hf
  rw [qsh,qdG] at this
  omega
 exact ⟨⟨by omega,by simp only; omega,by simp only; omega,by simp only; omega,fun t h=>(ht t h).c,fun t h=>(ht t h).k,hf,fun t h=>(ht t h).nm,fun t h=>(ht t h).cn⟩,by omega⟩
theorem tabC_inj {a b:qu} (h:qsS a=qsS b):a=b:=(qlF (r:=[]) (s:=[]) (by rw [List.append_nil,List.append_nil]; exact h)).1
theorem qvm {a b:Nat} (h:a+b≤1048576):a * (67+b)≤1000000000000:=by
 rcases Nat.le_total a 524288 with h1|h1
 ·have:=Nat.mul_le_mul h1 (show 67+b≤67+1048576 by omega)
  omega
 ·have:=Nat.mul_le_mul (show a≤1048576 by omega) (show 67+b≤67+524288 by omega)
  omega
theorem qsZ {M:Nat} :(r:qaG)→(∀v∈r,(qi3 v).length≤M)→((r.map qi3).flatten).length≤r.length * M
 |[],_=>by simp
 |v::r,h=>by
  have h1:=h v List.mem_cons_self
  have h2:=qsZ r fun u hu=>h u (List.mem_cons_of_mem _ hu)
  simp only [List.map_cons,List.flatten_cons,List.length_append,List.length_cons,Nat.add_mul,Nat.one_mul] at h2⊢
  omega
theorem qid {r:qaG} {a b:Nat} (ha:r.length≤a) (hab:a+b≤1048576) (h:∀v∈r,qhA.good v∧v.2.2.1.length≤b):(qdE r).length≤1099511627776:=by
 have h1:=qsZ (M:=67+b) r fun v hv=>by
  obtain ⟨⟨g1,g2,g3,_⟩,g4⟩:=h v hv
  have:=qdF (v:=v) ⟨g1,g2,g3⟩
  omega
 have h2:=Nat.mul_le_mul_right (67+b) ha
 have h3:=qvm hab
 have h4:=qb6 (n:=r.length) (by unfold maxLen; omega)
 unfold qdE
 rw [List.length_append]
 omega
theorem qjp:(r:qaG)→∀v∈r,v.2.2.1.length+r.length≤(r.map qhA.bulk).sum
 |[],v,hv=>by cases hv
 |u::r,v,hv=>by
  have hu:qhA.bulk u=1+(1+(u.2.2.1.length+1+1)):=rfl
  have hr:r.length≤(r.map qhA.bulk).sum:=by
   have:=qh4 qhA r
   have e:(Ty.slice qhA).bulk r=(r.map qhA.bulk).sum+1:=rfl
   omega
  simp only [List.map_cons,List.sum_cons,List.length_cons]
  rcases List.mem_cons.1 hv with rfl|hv
  ·omega
  ·have:=qjp r v hv
   omega
theorem qoA:(rows:List qaG)→∀r∈rows,(r.map qhA.bulk).sum+1≤(rows.map (Ty.slice qhA).bulk).sum
 |[],r,hr=>by cases hr
 |q::rows,r,hr=>by
  simp only [List.map_cons,List.sum_cons]
  have e:(Ty.slice qhA).bulk q=(q.map qhA.bulk).sum+1:=rfl
  rcases List.mem_cons.1 hr with rfl|hr
  ·omega
  ·have:=qoA rows r hr
   omega
abbrev qjK:Ty:= .pair .str (.pair (.slice (.slice qhA)) .unit)
theorem qqD (r:qez):qjK.bulk r=r.1.length+1+((r.2.1.map (Ty.slice qhA).bulk).sum+1+1):=by
 obtain ⟨r1,r2,⟨⟩⟩:=r; rfl
theorem qo6 (row:qaG) (i:Int):qlR row i∈row∨qlR row i=zV:=by
 unfold qlR
 split
 ·exact .inl (List.getElem_mem _)
 ·exact .inr rfl
structure RIn (b:Nat) (rels:List qez):Prop where
 good:∀r∈rels,∀row∈r.2.1,∀v∈row,qhA.good v
 bulk:(rels.map qjK.bulk).sum≤b
theorem quK {rels:List qez} {b:Nat} (hg:(Ty.slice qjK).good rels) (hb:(Ty.slice qjK).bulk rels≤b+1):RIn b rels:=by
 have e:(Ty.slice qjK).bulk rels=(rels.map qjK.bulk).sum+1:=rfl
 refine ⟨fun r hr row hrow v hv=> ?_,by omega⟩
 have h:=hg.2 r hr
 obtain ⟨r1,r2,⟨⟩⟩:=r
 exact (h.2.1.2 row hrow).2 v hv
theorem rlen (r:qaG):r.length≤(r.map qhA.bulk).sum:=by
 have:=qh4 qhA r
 have e:(Ty.slice qhA).bulk r=(r.map qhA.bulk).sum+1:=rfl
 omega
theorem RIn.rows {b:Nat} {rels:List qez} (h:RIn b rels) {r:qez} (hr:r∈rels):r.2.1.length≤b∧∀row∈r.2.1,(row.map qhA.bulk).sum≤b:=by
 have h1:=qfK qjK.bulk hr
 have h2:=h.bulk
 rw [qqD] at h1
 refine ⟨?_,fun row hrow=> ?_⟩
 ·have:=qh4 (.slice qhA) r.2.1
  have e:(Ty.slice (.slice qhA)).bulk r.2.1=(r.2.1.map (Ty.slice qhA).bulk).sum+1:=rfl
  omega
 ·have:=qoA r.2.1 row hrow
  omega
theorem qo1 {b:Nat} {rels:List qez} (h:RIn b rels) (hb:b≤1048576):qiq 2000000 rels:=by
 refine ⟨?_,fun r hr=> ?_,fun r hr row hrow=> ?_,fun r hr row hrow=> ?_⟩
 ·have h1:=qho qjK.bulk rels fun x _=>qdB qjK x
  have:=h.bulk
  omega
 ·have:=(h.rows hr).1; omega
 ·have:=(h.rows hr).2 row hrow
  have:=rlen row
  omega
 ·have h2:=(h.rows hr).2 row hrow
  have h3:=rlen row
  exact qid (a:=row.length) (b:=1048576 - row.length) (Nat.le_refl _) (by omega) fun v hv=>⟨h.good r hr row hrow v hv,by have:=qjp row v hv; omega⟩
theorem quR {b:Nat} {rels:List qez} (h:RIn b rels) {cs:List Int} {a:Nat} (hc:cs.length≤a) (hab:a+b≤1048576) {r:qez} (hr:r∈rels) {row:qaG} (hrow:row∈r.2.1):(qdE (qaA cs row)).length≤1099511627776:=by
 have h2:=(h.rows hr).2 row hrow
 refine qid (a:=a) (b:=b) (by rw [qeR]; exact hc) hab fun v hv=> ?_
 obtain ⟨i,_,rfl⟩:=List.mem_map.1 hv
 rcases qo6 row i with hm|hm
 ·exact ⟨h.good r hr row hrow _ hm,by have:=qjp row _ hm; omega⟩
 ·rw [hm]; exact ⟨⟨qcw,qcw,Nat.zero_le _,trivial⟩,Nat.zero_le _⟩
theorem qoT {s:qe} {rels:List qez} {b:Nat} (h:RIn b rels) (hb:qtI.bulk s+b≤1048576):qr2 s rels:=by
 obtain ⟨x,y,z,⟨⟩⟩:=s
 rw [qjo] at hb
 refine ⟨fun r hr row hrow t ht=>quR h (a:=qnb.bulk t) ?_ ?_ hr hrow,fun r hr row hrow f hf=>quR h (a:=TFk.bulk f) ?_ ?_ hr hrow⟩
 ·rw [qnW,qdG]; omega
 ·have:=qfK qnb.bulk ht; simp only at this; omega
 ·rw [qsh,qdG]; omega
 ·have:=qfK TFk.bulk hf; simp only at this; omega
end
end Go.Proofs.YtfcdfdnlgfebmaaGreatDoor
namespace Go.Proofs.YtfcdfdnlgfebmaaGreatDoor
open Go.Vi
noncomputable section
abbrev qe1:Type:=Int×(List UInt8×(qaG×(qaG×Unit)))
def keyE (t:qu) (key:qaG) (i:Nat):Option Int:=match key[i]? with
 |none=>none
 |some v=>if qrs v≠0 then some (qrs v) else if v.1≠(qh t.2.1 (qh t.2.2.1 (i:Int) 0) qke).2.1 then some 7 else none
def vKey (t:qu) (key:qaG):Int:=if key.length≠t.2.2.1.length then 3 else match q9 (keyE t key) key.length with
 |some e=>e
 |none=>0
def badK (c:qe1):Bool:=((decide (c.1=1)&&decide (0<c.2.2.1.length))||(decide (c.1=2)&&decide (0<c.2.2.2.1.length)))||(!decide (c.1=1)&& !decide (c.1=2))
def qqk (s:qe) (c:qe1):Int:=if badK c=true then 3 else match qfW s c.2.1 with
 |none=>4
 |some t=>if c.1=1 then qsK t c.2.2.2.1 else vKey t c.2.2.1
theorem pos_dec {α:Type} (xs:List α):ltI 0 (qn xs)=decide (0<xs.length):=qkE xs 0
def tgtT (t:qu) (c:qe1):qaG:=if c.1=1 then qaA t.2.2.1 c.2.2.2.1 else c.2.2.1
def tgtS (s:qe) (c:qe1):qaG:=tgtT (qtD s c.2.1) c
structure qsE (N:Nat) (s:qe) (cs:List qe1):Prop where
 n:2 * cs.length+100<N
 key:∀c∈cs,c.2.2.1.length<N
 row:∀c∈cs,c.2.2.2.1.length<N
 ek:∀c∈cs,(qdE c.2.2.1).length≤1099511627776
 er:∀c∈cs,(qdE c.2.2.2.1).length≤1099511627776
 et:∀c∈cs,∀t∈s.1,(qdE (tgtT t c)).length≤1099511627776
 nm:∀c∈cs,c.2.1.length≤1048576
def chgE (s:qe) (cs:List qe1) (i:Nat):Option Int:=match cs[i]? with
 |none=>none
 |some c=>if qqk s c≠0 then some (qqk s c) else none
def vComp (s:qe) (cs:List qe1):Int:=if qpi s≠0 then qpi s else match q9 (chgE s cs) cs.length with
 |some e=>e
 |none=>0
def qkp (s:qe) (a b:qe1):Bool:=decide (a.2.1=b.2.1)&&decide (tgtS s a=tgtS s b)
def qmC (s:qe) (cs:List qe1):Nat→List qe1
 |0=>[]
 |n+1=>qmC s cs n++(match cs[n]? with
  |none=>[]
  |some c=>if (cs.drop (n+1)).any (fun l=>qkp s l c)=true then [] else [c])
theorem keepP_succ {s:qe} {cs:List qe1} {i:Nat} (hi:i<cs.length):qmC s cs (i+1)=qmC s cs i++(if (cs.drop (i+1)).any (fun l=>qkp s l cs[i])=true then [] else [cs[i]]):=by
 simp only [qmC,List.getElem?_eq_getElem hi]
theorem qsj (s:qe) (cs:List qe1):(n:Nat)→(qmC s cs n).length≤n
 |0=>by simp [qmC]
 |n+1=>by
  have ih:=qsj s cs n
  simp only [qmC,List.length_append]
  split
  ·simp; omega
  ·split
   ·simp; omega
   ·simp; omega
theorem qsy (s:qe) (cs:List qe1):(n:Nat)→∀c∈qmC s cs n,c∈cs
 |0,c,h=>by simp [qmC] at h
 |n+1,c,h=>by
  simp only [qmC,List.mem_append] at h
  rcases h with h|h
  ·exact qsy s cs n c h
  ·split at h
   ·cases h
   ·rename_i x hx
    obtain ⟨hi,rfl⟩:=List.getElem?_eq_some_iff.1 hx
    split at h
    ·cases h
    ·rw [List.mem_singleton.1 h]; exact List.getElem_mem hi
theorem qo7 {s:qe} {c:qe1} (h:qqk s c=0):∃(i:Nat) (t:qu) (hi:i<s.1.length),qi8 (qcJ c.2.1) s.1=some i∧qfW s c.2.1=some t∧s.1[i]=t∧t.1=c.2.1∧qtD s c.2.1=t:=by
 rcases qf7 s c.2.1 with ⟨g1,g2⟩|⟨i,t,g1,g2,hi,g3⟩
 ·unfold qqk at h
  rw [g2] at h
  split at h <;> cases h
 ·have e:s.1[i]=t:=by have:=g3 qvs; rwa [qP _ hi] at this
  obtain ⟨hj,k1,_⟩:=qhr g1
  refine ⟨i,t,hi,g1,g2,e,?_,by unfold qtD; rw [g2]; rfl⟩
  rw [←e]
  simpa [qcJ] using k1
theorem tgt_len {N:Nat} {t:qu} {c:qe1} (hN:t.2.2.1.length<N) (h1:c.2.2.1.length<N):(tgtT t c).length<N:=by
 unfold tgtT
 split
 ·rw [qeR]; exact hN
 ·exact h1
abbrev zChg:qe1:=(0,(([]:List UInt8),(([]:qaG),(([]:qaG),()))))
theorem qsw (s:qe) (cs:List qe1):∀i e,chgE s cs i=some e→e≠0:=fun i e h=>by
 unfold chgE at h
 split at h
 ·cases h
 split at h
 ·rename_i hv; injection h with h; subst h; exact hv
 ·cases h
theorem comp_all {s:qe} {cs:List qe1} (h:vComp s cs=0):qpi s=0∧∀c∈cs,qqk s c=0:=by
 unfold vComp at h
 by_cases h0:qpi s≠0
 ·rw [if_pos h0] at h; exact absurd h h0
 rw [if_neg h0] at h
 obtain ⟨h1,_⟩:=qd2 (qsw s cs) h
 refine ⟨by omega,fun c hc=> ?_⟩
 obtain ⟨i,hi,rfl⟩:=List.getElem_of_mem hc
 have:=qaV h1 i hi
 simp only [chgE,List.getElem?_eq_getElem hi] at this
 split at this
 ·cases this
 ·rename_i hv; simpa using hv
theorem chg_first (s:qe) (cs:List qe1) {i:Nat} (hi:i<cs.length):chgE s cs i=if qqk s cs[i]≠0 then some (qqk s cs[i]) else none:=by
 simp only [chgE,List.getElem?_eq_getElem hi]
def idC (s:qe) (c:qe1):List UInt8:=c.2.1++[47]++qdE (tgtS s c)
theorem qol:(a b x y:List UInt8)→(∀c∈a,c≠47)→(∀c∈b,c≠47)→a++[47]++x=b++[47]++y→a=b∧x=y
 |[],[],x,y,_,_,h=>⟨rfl,by simpa using h⟩
 |[],b::bs,x,y,_,hb,h=>by
  simp only [List.nil_append,List.cons_append,List.cons.injEq] at h
  exact absurd h.1.symm (hb b List.mem_cons_self)
 |a::ar,[],x,y,ha,_,h=>by
  simp only [List.nil_append,List.cons_append,List.cons.injEq] at h
  exact absurd h.1 (ha a List.mem_cons_self)
 |a::ar,b::bs,x,y,ha,hb,h=>by
  simp only [List.cons_append,List.cons.injEq] at h
  obtain ⟨h1,h2⟩:=qol ar bs x y (fun c hc=>ha c (List.mem_cons_of_mem _ hc)) (fun c hc=>hb c (List.mem_cons_of_mem _ hc)) h.2
  exact ⟨by rw [h.1,h1],h2⟩
theorem qka.nameOk {s:qe} (h:qka s) {t:qu} (ht:t∈s.1):nameOk t.1=true:=by
 obtain ⟨i,hi,rfl⟩:=List.getElem_of_mem ht
 have:=qaV h.tabs i hi
 simp only [qqH,List.getElem?_eq_getElem hi] at this
 split at this
 ·cases this
 rename_i hv
 have hv:qrE s.1[i]=0:=by simpa using hv
 unfold qrE at hv
 split at hv
 ·cases hv
 ·rename_i hq; simpa using hq
theorem qr3 {n:List UInt8} (h:nameOk n=true):∀c∈n,c≠47:=fun c hc e=>by
 subst e
 unfold nameOk at h
 split at h
 ·cases h
 ·rename_i c0 r
  simp only [Bool.and_eq_true,List.all_eq_true] at h
  rcases List.mem_cons.1 hc with rfl|hc
  ·have:=h.2.1; revert this; decide
  ·have:=h.2.2 _ hc; revert this; decide
theorem quP {s:qe} (hv:qka s) {a b:qe1} (ha:qqk s a=0) (hb:qqk s b=0):idC s a=idC s b↔qkp s a b=true:=by
 obtain ⟨i,t,hi,a1,a2,a3,a4,a5⟩:=qo7 ha
 obtain ⟨k,u,hk,b1,b2,b3,b4,b5⟩:=qo7 hb
 have na:=qr3 (hv.nameOk (qh5 a2))
 have nb:=qr3 (hv.nameOk (qh5 b2))
 rw [a4] at na
 rw [b4] at nb
 unfold idC qkp
 simp only [Bool.and_eq_true,decide_eq_true_eq]
 constructor
 ·intro h
  obtain ⟨h1,h2⟩:=qol _ _ _ _ na nb h
  exact ⟨h1,qn1 h2⟩
 ·rintro ⟨h1,h2⟩
  rw [h1,h2]
def putM (ks:List (List UInt8)):Nat→List (List UInt8×Int)
 |0=>[]
 |n+1=>match ks[n]? with
  |none=>putM ks n
  |some k=>qmh (putM ks n) k (n:Int)
def qpr (ks:List (List UInt8)) (k:List UInt8):Nat→Int
 |0=>0
 |n+1=>if ks[n]? =some k then (n:Int) else qpr ks k n
theorem qlI (ks:List (List UInt8)) (k:List UInt8):(n:Nat)→qhn (putM ks n) k 0=qpr ks k n
 |0=>by simp only [putM,qpr,qnC]
 |n+1=>by
  simp only [putM,qpr]
  cases h:ks[n]? with
  |none=>simp only [qlI ks k n]; rw [if_neg (by simp)]
  |some k'=>
   simp only [qjM,qlI ks k n]
   by_cases hq:k'=k
   ·rw [if_pos hq,if_pos (by rw [hq])]
   ·rw [if_neg hq,if_neg (fun e=>hq (Option.some.inj e))]
theorem qov (ks:List (List UInt8)) {i:Nat} {k:List UInt8} (hi:ks[i]? =some k):(m:Nat)→(qpr ks k (i+1+m)=(i:Int)↔∀j,i<j→j<i+1+m→ks[j]? ≠some k)
 |0=>by
  simp only [Nat.add_zero,qpr,hi,if_true,true_iff]
  intro j h1 h2; omega
 |m+1=>by
  have ih:=qov ks hi m
  rw [show i+1+(m+1)=(i+1+m)+1 by omega]
  simp only [qpr]
  by_cases hq:ks[i+1+m]? =some k
  ·rw [if_pos hq]
   constructor
   ·intro h; omega
   ·intro h; exact absurd hq (h _ (by omega) (by omega))
  ·rw [if_neg hq,ih]
   constructor
   ·intro h j h1 h2
    by_cases hj:j=i+1+m
    ·rw [hj]; exact hq
    ·exact h j h1 (by omega)
   ·intro h j h1 h2
    exact h j h1 (by omega)
theorem last_keep {s:qe} {cs:List qe1} (hv:qka s) (hall:∀c∈cs,qqk s c=0) {i:Nat} (hi:i<cs.length):eqI (qhn (putM (cs.map (idC s)) cs.length) (idC s cs[i]) 0) (i:Int)= !((cs.drop (i+1)).any (fun l=>qkp s l cs[i])):=by
 have hg:(cs.map (idC s))[i]? =some (idC s cs[i]):=by simp [hi]
 obtain ⟨m,hm⟩:∃m,cs.length=i+1+m:=⟨cs.length - (i+1),by omega⟩
 have hl:=qov (cs.map (idC s)) hg m
 rw [←hm] at hl
 rw [qlI,qbT]
 cases ha:(cs.drop (i+1)).any (fun l=>qkp s l cs[i]) with
 |false=>
  refine decide_eq_true (hl.2 fun j h1 h2 hq=> ?_)
  simp only [List.getElem?_map,List.getElem?_eq_getElem h2,Option.map_some,Option.some.injEq] at hq
  have hs:=(quP hv (hall _ (List.getElem_mem h2)) (hall _ (List.getElem_mem hi))).1 hq
  rw [List.any_eq_false] at ha
  refine ha _ ?_ hs
  rw [List.mem_iff_getElem]
  exact ⟨j - (i+1),by rw [List.length_drop]; omega,by rw [List.getElem_drop]; congr 1; omega⟩
 |true=>
  refine decide_eq_false fun hq=> ?_
  obtain ⟨l,hm2,hs⟩:=List.any_eq_true.1 ha
  obtain ⟨j,hj,rfl⟩:=List.getElem_of_mem hm2
  rw [List.length_drop] at hj
  rw [List.getElem_drop] at hs
  refine hl.1 hq (i+1+j) (by omega) (by omega) ?_
  simp only [List.getElem?_map,List.getElem?_eq_getElem (show i+1+j<cs.length by omega),Option.map_some,Option.some.injEq]
  exact (quP hv (hall _ (List.getElem_mem _)) (hall _ (List.getElem_mem hi))).2 hs
end
end Go.Proofs.YtfcdfdnlgfebmaaGreatDoor
namespace Go.Proofs.YtfcdfdnlgfebmaaGreatDoor
open Go.Vi
noncomputable section
theorem qte (N:Nat) (xs ys:List qe1) (φ:(qe1×(qe1×Unit))→Option (Bool×Unit)) (hφ:∀a∈xs,∀b∈ys,φ (a,(b,()))=some (decide (a=b),())) (hN:xs.length<N) (hB:N≤1099511627776):
  qao N (xs,(ys,(φ,())))=some ((decide (xs=ys),()),()):=by
 simp only [qao]
 by_cases hl:xs.length=ys.length
 ·rw [qE (by rw [qaS,qi,qi,hl]; simp)]
  refine qdo (S:=Int×Unit) (R:=(Bool×Unit)×Unit) (fun p=>xs.length - p.1.toNat) (fun p=>∃i:Nat,p.1=(i:Int)∧i≤xs.length∧xs.take i=ys.take i) (fun _=>((decide (xs=ys),()),())) ?_ N _ ⟨0,rfl,Nat.zero_le _,by simp⟩ (by simp; omega)
  rintro ih ⟨_,_⟩ ⟨i,rfl,h2,h3⟩ hih
  simp only [Int.toNat_natCast] at hih⊢
  by_cases hi:i<xs.length
  ·have hj:i<ys.length:=by omega
   rw [qB (qbC hi),qU hi,qU hj,qP _ hi,qP _ hj,hφ _ (List.getElem_mem hi) _ (List.getElem_mem hj)]
   simp only [qg,qj,cond_true]
   by_cases e:xs[i]=ys[i]
   ·rw [qE (by simp [e]),q8 (by omega),hih _ ⟨i+1,rfl,by omega,by rw [qcF hi,qcF hj,h3,e]⟩ (by simp only [Int.toNat_natCast]; omega)]
   ·rw [qB (by simp [e])]
    have:xs≠ys:=fun h=>e (by subst h; rfl)
    simp [this]
  ·rw [qE (qaX hi)]
   have e1:i=xs.length:=by omega
   subst e1
   have:xs=ys:=by
    have:=h3
    rwa [List.take_length,hl,List.take_length] at this
   simp [this]
 ·rw [qB (by rw [qaS,qi,qi]; simp; omega)]
  have:xs≠ys:=fun h=>hl (by rw [h])
  simp [this]
theorem chg_eq (a b:qe1):(((decide (a.1=b.1)&&decide (a.2.1=b.2.1))&&decide (a.2.2.1=b.2.2.1))&&decide (a.2.2.2.1=b.2.2.2.1))=decide (a=b):=by
 obtain ⟨a1,a2,a3,a4,⟨⟩⟩:=a
 obtain ⟨b1,b2,b3,b4,⟨⟩⟩:=b
 rw [←Bool.decide_and,←Bool.decide_and,←Bool.decide_and]
 exact decide_eq_decide.2 (by simp only [Prod.mk.injEq,and_true]; constructor <;> simp+contextual)
theorem encEq (x y:qaG):decide (qdE x=qdE y)=decide (x=y):=by
 by_cases h:x=y
 ·simp [h]
 ·have:qdE x≠qdE y:=fun e=>h (qn1 e)
  simp [h,this]
structure qqq (cs:List qe1):Prop where
 ek:∀c∈cs,(qdE c.2.2.1).length≤1099511627776
 er:∀c∈cs,(qdE c.2.2.2.1).length≤1099511627776
theorem eqChgs (N:Nat) (xs ys:List qe1) (hx:qqq xs) (hy:qqq ys) (hN:xs.length<N) (hB:N≤1099511627776):qbp N (xs,(ys,()))=some ((decide (xs=ys),()),()):=by
 have h:qao N (xs,(ys,((fun x0=>(qhf (fun y1:((Bool×Unit)×Unit)=>(y1.1.1,())) (qbb N (x0.1,(x0.2.1,()))))),())))=some ((decide (xs=ys),()),()):=
  qte N xs ys _ (fun a ha b hb=>by
   simp only [qbb,qfh N _ (hx.ek a ha),qfh N _ (hx.er a ha),qfh N _ (hy.ek b hb),qfh N _ (hy.er b hb),qg,qj,Bool.or_true,Bool.and_self,cond_true,qce,Option.map_some,encEq,qbP,qbT,chg_eq]) hN hB
 simp only [qbp,h,qg,qj,cond_true]
def confB (s:qe) (d c:qe1):Bool:=qkp s d c&&(decide (d.1≠c.1)|| !decide (d.2.2.2.1=c.2.2.2.1))
def refB (s:qe) (c d:qe1):Bool:=qkp s c d&& !decide (c=d)
theorem conf_ref {s:qe} {c d:qe1} (hc:qqk s c=0) (hd:qqk s d=0):confB s d c=refB s c d:=by
 have kinds:∀ {c:qe1},qqk s c=0→(c.1=1→c.2.2.1=[])∧(c.1=1∨c.1=2):=fun {c} h=>by
  unfold qqk at h
  split at h
  ·cases h
  rename_i hb
  have hb:badK c=false:=by simpa using hb
  unfold badK at hb
  simp only [Bool.or_eq_false_iff,Bool.and_eq_false_iff,decide_eq_false_iff_not,Bool.not_eq_false',decide_eq_true_eq] at hb
  refine ⟨fun h1=> ?_,?_⟩
  ·rcases hb.1.1 with h2|h2
   ·exact absurd h1 h2
   ·exact List.length_eq_zero_iff.1 (by omega)
  ·exact hb.2
 obtain ⟨c1,c2⟩:=kinds hc
 obtain ⟨d1,d2⟩:=kinds hd
 have sym:qkp s d c=qkp s c d:=by
  unfold qkp
  rw [decide_eq_decide.2 (eq_comm (a:=d.2.1)),decide_eq_decide.2 (eq_comm (a:=tgtS s d))]
 unfold confB refB
 rw [sym]
 cases hs:qkp s c d with
 |false=>rfl
 |true=>
  unfold qkp at hs
  simp only [Bool.and_eq_true,decide_eq_true_eq] at hs
  obtain ⟨h1,h2⟩:=hs
  have key:(¬d.1≠c.1∧d.2.2.2.1=c.2.2.2.1)↔c=d:=by
   constructor
   ·rintro ⟨k1,k2⟩
    have k1:d.1=c.1:=by omega
    have k3:c.2.2.1=d.2.2.1:=by
     rcases c2 with q|q
     ·rw [c1 q,d1 (by omega)]
     ·unfold tgtS tgtT at h2
      rw [if_neg (by omega),if_neg (by omega)] at h2
      exact h2
    obtain ⟨a1,a2,a3,a4,⟨⟩⟩:=c
    obtain ⟨b1,b2,b3,b4,⟨⟩⟩:=d
    simp only at k1 k2 k3 h1
    subst k1; subst k2; subst k3; subst h1
    rfl
   ·rintro rfl
    exact ⟨fun h=>h rfl,rfl⟩
  by_cases hq:c=d
  ·obtain ⟨k1,k2⟩:=key.2 hq
   simp [hq]
  ·have:¬(¬d.1≠c.1∧d.2.2.2.1=c.2.2.2.1):=fun h=>hq (key.1 h)
   simp only [hq,decide_false,Bool.not_false,Bool.and_true,Bool.true_and]
   by_cases k1:d.1=c.1
   ·have k2:¬d.2.2.2.1=c.2.2.2.1:=fun h=>this ⟨fun h2=>h2 k1,h⟩
    simp [k2]
   ·simp [k1]
abbrev qtB:Ty:= .pair (.int .i64) (.pair .str (.pair (.slice qhA) (.pair (.slice qhA) .unit)))
theorem qh3 (c:qe1):qtB.bulk c=1+(c.2.1.length+1+((c.2.2.1.map qhA.bulk).sum+1+((c.2.2.2.1.map qhA.bulk).sum+1+1))):=by
 obtain ⟨c1,c2,c3,c4,⟨⟩⟩:=c; rfl
theorem qqO {r:qaG} (hg:∀v∈r,qhA.good v) (hb:(r.map qhA.bulk).sum≤1048576):(qdE r).length≤1099511627776:=by
 have h3:=rlen r
 exact qid (a:=r.length) (b:=1048576 - r.length) (Nat.le_refl _) (by omega) fun v hv=>⟨hg v hv,by have:=qjp r v hv; omega⟩
theorem csmall_of {s:qe} {cs:List qe1} (hg:(Ty.slice qtB).good cs) (hb:qtI.bulk s+(Ty.slice qtB).bulk cs≤1048577):qsE 5000000 s cs:=by
 have e:(Ty.slice qtB).bulk cs=(cs.map qtB.bulk).sum+1:=rfl
 have hl:=qho qtB.bulk cs fun x _=>qdB qtB x
 have hone:∀c∈cs,qtB.bulk c≤(cs.map qtB.bulk).sum:=fun c hc=>qfK qtB.bulk hc
 have good:∀c∈cs,(∀v∈c.2.2.1,qhA.good v)∧∀v∈c.2.2.2.1,qhA.good v:=fun c hc=>by
  have h:=hg.2 c hc
  obtain ⟨c1,c2,c3,c4,⟨⟩⟩:=c
  exact ⟨h.2.2.1.2,h.2.2.2.1.2⟩
 refine ⟨by omega,fun c hc=> ?_,fun c hc=> ?_,fun c hc=> ?_,fun c hc=> ?_,fun c hc t ht=> ?_,fun c hc=> ?_⟩
 ·have:=hone c hc; rw [qh3] at this; have:=rlen c.2.2.1; omega
 ·have:=hone c hc; rw [qh3] at this; have:=rlen c.2.2.2.1; omega
 ·have:=hone c hc; rw [qh3] at this; exact qqO (good c hc).1 (by omega)
 ·have:=hone c hc; rw [qh3] at this; exact qqO (good c hc).2 (by omega)
 ·have h1:=hone c hc
  rw [qh3] at h1
  unfold tgtT
  split
  ·have h2:qnb.bulk t≤qtI.bulk s:=by
    obtain ⟨x,y,z,⟨⟩⟩:=s
    rw [qjo]
    have:=qfK qnb.bulk ht
    simp only at this
    omega
   refine qid (a:=qnb.bulk t) (b:=(c.2.2.2.1.map qhA.bulk).sum) (by rw [qeR,qnW,qdG]; omega) (by omega) fun v hv=> ?_
   obtain ⟨i,_,rfl⟩:=List.mem_map.1 hv
   rcases qo6 c.2.2.2.1 i with hm|hm
   ·exact ⟨(good c hc).2 _ hm,by have:=qjp c.2.2.2.1 _ hm; omega⟩
   ·rw [hm]; exact ⟨⟨qcw,qcw,Nat.zero_le _,trivial⟩,Nat.zero_le _⟩
  ·exact qqO (good c hc).1 (by omega)
 ·have:=hone c hc; rw [qh3] at this; omega
theorem qg8.mono {N M:Nat} {s:qe} (h:qg8 N s) (hNM:N≤M) (hM:M≤1099511627776):qg8 M s:=by
 obtain ⟨⟨_,t,f,c,tc,tk,fc,tn,cn⟩,m⟩:=h
 exact ⟨⟨hM,by omega,by omega,by omega,fun x hx=>Nat.lt_of_lt_of_le (tc x hx) hNM,fun x hx=>Nat.lt_of_lt_of_le (tk x hx) hNM,fun x hx=>Nat.lt_of_lt_of_le (fc x hx) hNM,fun x hx=>Nat.lt_of_lt_of_le (tn x hx) hNM,fun x hx y hy=>Nat.lt_of_lt_of_le (cn x hx y hy) hNM⟩,by omega⟩
theorem qsE.enc {N:Nat} {s:qe} {cs xs:List qe1} (h:qsE N s cs) (hx:∀c∈xs,c∈cs):qqq xs:=
 ⟨fun c hc=>h.ek c (hx c hc),fun c hc=>h.er c (hx c hc)⟩
end
end Go.Proofs.YtfcdfdnlgfebmaaGreatDoor
namespace Go.Proofs.YtfcdfdnlgfebmaaGreatDoor
open Go.Vi
noncomputable section
theorem qmZ (N:Nat) (t:qu) (rows:List qaG) (key:qaG) (hN:t.2.2.1.length<N) (hN2:rows.length<N) (hB:N≤1099511627776):
  qS N (t,(rows,(key,())))=some ((((qc5 (fun r=>qH (qaA t.2.2.1 r) key) rows).1:Int),((qc5 (fun r=>qH (qaA t.2.2.1 r) key) rows).2,())),()):=by
 have hk:∀r,qac N (t,(r,()))=some ((qaA t.2.2.1 r,()),()):=fun r=>qnL N t r hN hB
 have hc:∀r,qD N (qaA t.2.2.1 r,(key,()))=some ((qH (qaA t.2.2.1 r) key,()),()):=fun r=>qfa N _ _ (by rw [qeR]; exact hN) hB
 have h1:∀r:qaG,qbu N (r,(t,(key,())))=some ((decide (0≤qH (qaA t.2.2.1 r) key),()),()):=fun r=>by
  simp only [qbu,hk,hc,qg,qj,cond_true,Bool.and_self,qeI]
 have h2:=qo4 N rows (fun r=>qH (qaA t.2.2.1 r) key) (fun x0=>(qhf (fun y1=>(y1.1.1,())) (qbu N (x0.1,(t,(key,())))))) (fun r=>by rw [h1 r,qce]; rfl) hN2 hB
 simp only [qS,qI]
 rw [h2]
 obtain ⟨s1,s2,s3⟩:=qkl (fun r=>qH (qaA t.2.2.1 r) key) rows
 generalize qc5 (fun r=>qH (qaA t.2.2.1 r) key) rows=q at *
 obtain ⟨i,b⟩:=q
 simp only at s1 s2 s3
 simp only [qg,qj,cond_true]
 by_cases hi:i<rows.length
 ·obtain ⟨s4,s5⟩:=s3 rows[i] (List.getElem?_eq_getElem hi)
  rw [if_pos hi,qE (by rw [qa0]; simp),qU hi,qP _ hi,hk]
  simp only [qg,qj,Bool.and_self,hc,cond_true,qbT,s5]
 ·have:i=rows.length:=by omega
  rw [if_neg hi,qB (by rw [qa0]; rfl),s2 this,qi,this]
theorem qrw (N:Nat) (n:Nat) (hn:n≤1000000000):qbH N ((),((n:Int),()))=some (([],()),()):=by
 have e1:qO .i64 (n:Int) (qO .i64 0 (qn ([]:List qaG)))=(n:Int):=by
  rw [qi,List.length_nil,qax (x:=0) (by omega) (by omega),qax (by omega) (by omega)]
  omega
 have e2:ltI (n:Int) 0=false:=by rw [qaN]; exact decide_eq_false (by omega)
 have e4:qau (qqY (α:=qaG) (n:Int) ([]:qaG)) 0 (qn ([]:List qaG))=[]:=by
  rw [qb4,qi]; simp
 have e5:inS 0 0 0=true:=by rw [qi1]; simp
 have e6:quZ (n:Int) 24=true:=by rw [qnZ]; simp; omega
 have e7:inS 0 (qn ([]:List qaG)) (qn (qqY (α:=qaG) (n:Int) ([]:qaG)))=true:=by rw [qi1,qi,qi]; simp
 simp only [qbH,qI,e1,e2,e4,e5,e6,e7,cond_false]
 cases ltI 0 (n:Int) <;> rfl
theorem qo3 (N:Nat) (a b:List qaG) (hN:100<N) (h:a.length+b.length≤1000000000):qap N ([a,b],())=some ((a++b,()),()):=by
 obtain ⟨M,rfl⟩:∃M,N=M+3:=⟨N - 3,by omega⟩
 have l0:ltI 0 (qn [a,b])=true:=by rw [qaN,qi]; simp
 have l1:ltI 1 (qn [a,b])=true:=by rw [qaN,qi]; simp
 have l2:ltI 2 (qn [a,b])=false:=by rw [qaN,qi]; simp
 have b0:inB 0 (qn [a,b])=true:=by rw [qca,qi]; simp
 have b1:inB 1 (qn [a,b])=true:=by rw [qca,qi]; simp
 have g0:qh [a,b] 0 []=a:=by rw [qb8]; rfl
 have g1:qh [a,b] 1 []=b:=by rw [qb8]; rfl
 have a0:qQ .i64 0 1=1:=q8 (i:=0) (by omega)
 have a1:qQ .i64 1 1=2:=q8 (i:=1) (by omega)
 have s0:qQ .i64 0 (qn a)=((a.length:Nat):Int):=by rw [qi,qaz (by omega) (by omega)]; omega
 have s1:qQ .i64 ((a.length:Nat):Int) (qn b)=((a.length+b.length:Nat):Int):=by rw [qi,qaz (by omega) (by omega)]; omega
 have n0:ltI ((a.length:Nat):Int) 0=false:=by rw [qaN]; exact decide_eq_false (by omega)
 have n1:ltI ((a.length+b.length:Nat):Int) 0=false:=by rw [qaN]; exact decide_eq_false (by omega)
 have r0:qcI (qn ([]:List qaG)) (qn a) 24=true:=qeX (by simp <;> omega)
 have r1:qcI (qn a) (qn b) 24=true:=qeX (by omega)
 simp only [qap,qI]
 rw [qam]
 simp only [l0,b0,g0,s0,n0,a0,cond_true,cond_false]
 rw [qam]
 simp only [l1,b1,g1,s1,n1,a1,cond_true,cond_false]
 rw [qam]
 simp only [l2,cond_false,qrw _ _ h,qg,qj,cond_true]
 rw [qam]
 simp only [l0,b0,g0,r0,a0,cond_true,qbE,List.nil_append]
 rw [qam]
 simp only [l1,b1,g1,r1,a1,cond_true,qbE]
 rw [qam]
 simp only [l2,cond_false]
theorem quf:qn ([]:List qaG)=0:=by rw [qi]; rfl
theorem qof (a:qaG) (ar:List qaG):eqI (qn (a::ar)) 0=false:=by rw [qbT,qi]; exact decide_eq_false (by simp <;> omega)
theorem qqt:eqI (qn ([]:List qaG)) 0=true:=by rw [quf]; exact eqT rfl
theorem qlW (a d:qaG) (ar:List qaG):qh (a::ar) 0 d=a:=by rw [qb8]; rfl
theorem qnm (a:qaG) (ar:List qaG):inB 0 (qn (a::ar))=true:=by rw [qca,qi]; simp
theorem qhX (a:qaG) (ar:List qaG):inS 1 (qn (a::ar)) (qn (a::ar))=true:=by rw [qi1,qi]; simp; omega
theorem qfj (a:qaG) (ar:List qaG):qau (a::ar) 1 (qn (a::ar))=ar:=by rw [qb4,qi]; simp
theorem qp1 (N:Nat) (t:qu) (xa xb:List qaG) (hk:t.2.2.1.length<N) (hN:xa.length+xb.length<N) (hB:N≤1000000000) (ha:∀r∈xa,r.length<N) (hb:∀r∈xb,r.length<N):
  qbU N (t,(xa,(xb,())))=some ((qdL t.1 t.2.2.1 xa xb,()),()):=by
 have hB':N≤1099511627776:=by omega
 have hD:=qes t.1 t.2.2.1 _ xa xb (Nat.le_refl _)
 have kq:∀r,qA N (t,(r,()))=some ((qaA t.2.2.1 r,()),()):=fun r=>quW N t r hk hB'
 have cq:∀r q,qJ N (qaA t.2.2.1 r,(q,()))=some ((qH (qaA t.2.2.1 r) q,()),()):=fun r q=>qiv N _ _ (by rw [qeR]; exact hk) hB'
 simp only [qbU]
 refine qa2 (S:=List qaG×(List qaG×(List qe1×Unit))) (fun p=>p.1.length+p.2.1.length) (fun p=>p.2.2.1++qdL t.1 t.2.2.1 p.1 p.2.1=qdL t.1 t.2.2.1 xa xb∧p.1.length≤xa.length∧p.2.1.length≤xb.length∧(∀r∈p.1,r.length<N)∧∀r∈p.2.1,r.length<N)
  (fun r=>r=some ((qdL t.1 t.2.2.1 xa xb,()),())) ?_ N _ ⟨rfl,Nat.le_refl _,Nat.le_refl _,ha,hb⟩ hN
 rintro ih ⟨p,q,out,⟨⟩⟩ ⟨h1,h2,h3,h4,h5⟩ hih
 simp only at h1 h2 h3 h4 h5 hih⊢
 have hol:out.length≤xa.length+xb.length:=by
  have:=congrArg List.length h1
  rw [List.length_append] at this
  omega
 have rm:∀c:qe1,qcI (qn out) (qn ([c]:List qe1)) 72=true:=fun c=>qeX (by simp <;> omega)
 have hsum:qQ .i64 (qn p) (qn q)=((p.length+q.length:Nat):Int):=by rw [qi,qi,qaz (by omega) (by omega)]; omega
 have cl:∀r∈q,qaa N (r,())=some ((r,()),()):=fun r hr=>qsG N r (by have:=h5 r hr; omega)
 have n1:ltI (-1:Int) 0=true:=ltT (by omega)
 have n2:ltI (1:Int) 0=false:=ltF (by omega)
 have n3:ltI (0:Int) 1=true:=ltT (by omega)
 cases p with
 |nil=>
  cases q with
  |nil=>
   rw [qjh,List.append_nil] at h1
   simp only [hsum,List.length_nil]
   rw [qE (ltF (by simp)),h1]
  |cons b bs=>
   rw [qgE] at h1
   have hlt:ltI 0 (((([]:List qaG).length+(b::bs).length:Nat)):Int)=true:=ltT (by simp <;> omega)
   simp only [hsum,hlt,cond_true,cond_false,qqt,Bool.true_or,n2,n3,qnm,qlW,cl b List.mem_cons_self,qg,qj,rm,qhX,qfj,Bool.and_self,qbE]
   refine hih _ ⟨?_,by simp,by simp at h3⊢; omega,fun r hr=>(by cases hr),fun r hr=>h5 r (List.mem_cons_of_mem _ hr)⟩ (by simp)
   simpa [qn6] using h1
 |cons a ar=>
  cases q with
  |nil=>
   rw [qh9] at h1
   have hlt:ltI 0 ((((a::ar).length+([]:List qaG).length:Nat)):Int)=true:=ltT (by simp <;> omega)
   simp only [hsum,hlt,cond_true,cond_false,qqt,qof,Bool.true_or,Bool.false_or,n1,qnm,qlW,kq,qg,qj,rm,qhX,qfj,Bool.and_self,qbE]
   refine hih _ ⟨?_,by simp at h2⊢; omega,by simp,fun r hr=>h4 r (List.mem_cons_of_mem _ hr),fun r hr=>by cases hr⟩ (by simp)
   simpa [qrH] using h1
  |cons b bs=>
   rw [qh0] at h1
   have hlt:ltI 0 ((((a::ar).length+(b::bs).length:Nat)):Int)=true:=ltT (by simp <;> omega)
   have ev:=qt5 N a b (h4 a List.mem_cons_self) (by have:=h4 a List.mem_cons_self; omega)
   simp only [hsum,hlt,cond_true,cond_false,qof,Bool.false_or,qnm,qlW,kq,cq,qg,qj,Bool.and_self,Bool.true_and]
   by_cases c1:qH (qaA t.2.2.1 a) (qaA t.2.2.1 b)<0
   ·rw [if_pos c1] at h1
    simp only [ltT c1,cond_true,rm,qhX,qfj,Bool.and_self,qbE]
    refine hih _ ⟨?_,by simp at h2⊢; omega,h3,fun r hr=>h4 r (List.mem_cons_of_mem _ hr),h5⟩ (by simp <;> omega)
    simpa [qrH] using h1
   rw [if_neg c1] at h1
   by_cases c2:0<qH (qaA t.2.2.1 a) (qaA t.2.2.1 b)
   ·rw [if_pos c2] at h1
    simp only [ltF c1,ltT c2,cond_true,cond_false,cl b List.mem_cons_self,qg,qj,rm,qhX,qfj,Bool.and_self,qbE]
    refine hih _ ⟨?_,h2,by simp at h3⊢; omega,h4,fun r hr=>h5 r (List.mem_cons_of_mem _ hr)⟩ (by simp <;> omega)
    simpa [qn6] using h1
   ·rw [if_neg c2] at h1
    simp only [ltF c1,ltF c2,cond_true,cond_false,ev,cl b List.mem_cons_self,qg,qj,rm,qhX,qfj,Bool.and_self,qbE,Bool.true_and]
    by_cases e:a=b
    ·rw [if_pos e,List.nil_append] at h1
     simp only [e,decide_true,Bool.not_true,cond_false,Bool.and_self,cond_true]
     exact hih _ ⟨h1,by simp at h2⊢; omega,by simp at h3⊢; omega,fun r hr=>h4 r (List.mem_cons_of_mem _ hr),fun r hr=>h5 r (List.mem_cons_of_mem _ hr)⟩ (by simp <;> omega)
    ·rw [if_neg e] at h1
     simp only [e,decide_false,Bool.not_false,cond_true,Bool.and_self]
     refine hih _ ⟨?_,by simp at h2⊢; omega,by simp at h3⊢; omega,fun r hr=>h4 r (List.mem_cons_of_mem _ hr),fun r hr=>h5 r (List.mem_cons_of_mem _ hr)⟩ (by simp <;> omega)
     simpa [qn6] using h1
def mmK (pk:List Int) (rows:List qaG):Nat→List (List UInt8×Bool)
 |0=>[]
 |n+1=>match rows[n]? with
  |none=>mmK pk rows n
  |some r=>if qaA pk r∈ddK pk rows n then mmK pk rows n else qmh (mmK pk rows n) (qdE (qaA pk r)) true
theorem qs9 (pk:List Int) (rows:List qaG) (k:qaG):(n:Nat)→qhn (mmK pk rows n) (qdE k) false=decide (k∈ddK pk rows n)
 |0=>by simp [mmK,ddK,qnC]
 |n+1=>by
  have ih:=qs9 pk rows k n
  cases hr:rows[n]? with
  |none=>simp only [mmK,ddK,hr]; exact ih
  |some r=>
   simp only [mmK,ddK,hr]
   by_cases hin:qaA pk r∈ddK pk rows n
   ·rw [if_pos hin,if_pos hin]; exact ih
   ·rw [if_neg hin,if_neg hin,qjM,ih]
    by_cases e:qaA pk r=k
    ·subst e
     simp
    ·rw [if_neg (fun q=>e (qn1 q))]
     refine decide_eq_decide.2 ?_
     rw [List.mem_append,List.mem_singleton]
     exact ⟨.inl,fun h=>h.elim id fun q=>absurd q.symm e⟩
theorem lenOk (N:Nat):qro (qbq N):=fun k hk=>by
 obtain ⟨e,h1,h2⟩:=qtl k hk
 refine ⟨e,?_,h2⟩
 have h1':qcP N ((k:Int),())=some (((e:Int),()),()):=h1
 simp only [qbq,h1',qg,qj,cond_true]
abbrev phiR (N:Nat):(qaG×(qaG×Unit))→Option (Int×Unit):=fun x4=>(qhf (fun y5:((Int×Unit)×Unit)=>(y5.1.1,())) (qD N (x4.1,(x4.2.1,()))))
theorem cmpR (N:Nat) (hB:N≤1099511627776):Cmp (fun r:qaG=>r.length<N) (phiR N) (fun a b=>¬qH b a<0) where
 ans a b ha hb:=by
  refine ⟨qH a b,?_,by simp⟩
  simp only [phiR,qfa N a b ha hB,qce,Option.map_some]
 tot a b _ _:=by
  by_cases h:qH b a<0
  ·right; intro h2; exact qbS _ (qbK _ _ _ h h2)
  ·exact .inl h
 trans a b c _ _ _ h1 h2 h3:=by
  by_cases e:qH b a<0
  ·exact h1 e
  ·by_cases e2:qH a b<0
   ·exact h2 (qbK _ _ _ h3 e2)
   ·rw [quM e2 e] at h3; exact h2 h3
theorem que (N:Nat) (xs:List qaG) (hB:N≤1099511627776) (hN:xs.length+10<N) (hx:∀r∈xs,r.length<N) (hn:xs.Nodup):∃K,qa8 N (xs,(phiR N,()))=some ((),(K,()))∧K.Perm xs∧qln K:=by
 obtain ⟨out,o1,o2,o3⟩:=qss (n:=xs.length) ([]:qaG) (cmpR N hB) (lenOk N) (by omega) hN (xs:=xs) ⟨rfl,hx⟩
 refine ⟨out,o1,o2.perm,?_⟩
 have hl:=o2.perm.length_eq
 have hnd:out.Nodup:=o2.perm.nodup_iff.2 hn
 rw [qln,List.pairwise_iff_getElem]
 intro i j hi hj hij
 have h:=o3 i j (by omega) (by omega) (by omega)
 rw [qP _ hi,qP _ hj] at h
 have hne:out[i]≠out[j]:=fun e=>by
  have:=(List.nodup_iff_pairwise_ne.1 hnd)
  exact (List.pairwise_iff_getElem.1 this i j hi hj hij) e
 by_cases h2:qH out[i] out[j]<0
 ·exact h2
 ·exact absurd (quM h2 h) hne
end
end Go.Proofs.YtfcdfdnlgfebmaaGreatDoor
namespace Go.Proofs.YtfcdfdnlgfebmaaGreatDoor
open Go.Vi
noncomputable section
def qly (s:qe) (a b:List qez) (i:Nat):List qe1:=match s.1[i]?,a[i]?,b[i]? with
 |some t,some x,some y=>qdL t.1 t.2.2.1 x.2.1 y.2.1
 |_,_,_=>[]
def qfQ (s:qe) (a b:List qez):Nat→List qe1
 |0=>[]
 |n+1=>qfQ s a b n++qly s a b n
theorem quz (n:List UInt8) (pk:List Int) (a b:List qaG) (k:qaG):(qj4 n pk a b k).length≤1:=by
 unfold qj4
 split
 ·simp
 ·split
  ·simp
  ·split <;> simp
theorem qkw (n:List UInt8) (pk:List Int) (a b:List qaG):(K:List qaG)→(K.flatMap (qj4 n pk a b)).length≤K.length
 |[]=>by simp
 |k::K=>by
  have h1:=qkw n pk a b K
  have h2:=quz n pk a b k
  rw [List.flatMap_cons,List.length_append,List.length_cons]
  omega
theorem qks {α β:Type} (f:α→List β) {l:List α} {i:Nat} (h:i<l.length):(l.take (i+1)).flatMap f=(l.take i).flatMap f++f l[i]:=by
 rw [qcF h,List.flatMap_append]; simp
structure qog (N:Nat) (s:qe) (a b:List qez):Prop where
 ss:qg8 N s
 ra:qiq N a
 rb:qiq N b
 ka:qr2 s a
 kb:qr2 s b
 hB:N≤1000000000
 out:∀n,(qfQ s a b n).length≤10000000000
 sum:∀(i:Nat) (x y:qez),a[i]? =some x→b[i]? =some y→x.2.1.length+y.2.1.length+100<N
theorem qvq (x y:qaG):eqS (qdE x) (qdE y)=decide (x=y):=by rw [qbP]; exact encEq x y
theorem qpy (N:Nat) (s:qe) (a b:List qez) (h:qog N s a b) (Fa:qvu s a) (Fb:qvu s b):qaP N (s,(a,(b,())))=some ((qfQ s a b s.1.length,()),()):=by
 have hB:=h.hB
 have hB':N≤1099511627776:=by omega
 have hst:=h.ss.sm.t
 simp only [qaP]
 refine qjq (S:=List qe1×(Int×Unit)) (fun i=>(qfQ s a b i,((i:Int),()))) s.1.length _ rfl (fun i hi ih=> ?_) (fun ih=> ?_) hst
 ·have ha:i<a.length:=by rw [Fa.len]; exact hi
  have hb:i<b.length:=by rw [Fb.len]; exact hi
  have ht:=h.ss.tab (List.getElem_mem hi)
  have hD:qfQ s a b (i+1)=qfQ s a b i++qdL (s.1[i]).1 (s.1[i]).2.2.1 (a[i]).2.1 (b[i]).2.1:=by
   simp only [qfQ,qly,List.getElem?_eq_getElem hi,List.getElem?_eq_getElem ha,List.getElem?_eq_getElem hb]
  rw [hD]
  have hol:=h.out i
  have hsum:=h.sum i _ _ (List.getElem?_eq_getElem ha) (List.getElem?_eq_getElem hb)
  have sa:=Fa.sorted i ha hi
  have sb:=Fb.sorted i hb hi
  have ea:=h.ra.enc _ (List.getElem_mem ha)
  have eb:=h.rb.enc _ (List.getElem_mem hb)
  have rla:=h.ra.row _ (List.getElem_mem ha)
  have rlb:=h.rb.row _ (List.getElem_mem hb)
  have kea:=h.ka.kt _ (List.getElem_mem ha)
  have keb:=h.kb.kt _ (List.getElem_mem hb)
  have htm:=List.getElem_mem hi
  simp only [qbC hi,qU hi,qU ha,qU hb,qP _ hi,qP _ ha,qP _ hb,cond_true,Bool.true_and]
  generalize (a[i]).2.1=A at *
  generalize (b[i]).2.1=B at *
  generalize qfQ s a b i=out at *
  generalize s.1[i]=t at *
  have hN1:100<N:=by omega
  have kq:∀r,qac N (t,(r,()))=some ((qaA t.2.2.1 r,()),()):=fun r=>qnL N t r ht.k hB'
  have hcat:=qo3 N A B hN1 (by omega)
  have hkl:∀r,(qaA t.2.2.1 r).length<N:=fun r=>by rw [qeR]; exact ht.k
  simp only [hcat,qg,qj,cond_true]
  have hke:∀r∈A++B,(qdE (qaA t.2.2.1 r)).length≤1099511627776:=fun r hr=>by
   rcases List.mem_append.1 hr with hr|hr
   ·exact kea r hr t htm
   ·exact keb r hr t htm
  refine qjq (S:=List qaG×(List (List UInt8×Bool)×(Int×Unit))) (fun j=>(ddK t.2.2.1 (A++B) j,(mmK t.2.2.1 (A++B) j,((j:Int),())))) (A++B).length _ rfl (fun j hj ih2=> ?_) (fun ih2=> ?_) (by rw [List.length_append]; omega)
  ·have hm:=List.getElem_mem hj
   have hdl:=qpn t.2.2.1 (A++B) j
   have hjl:j<A.length+B.length:=by rwa [List.length_append] at hj
   have rm:∀k:qaG,qcI (qn (ddK t.2.2.1 (A++B) j)) (qn ([k]:List qaG)) 24=true:=fun k=>qeX (by simp; omega)
   simp only [qbC hj,qU hj,qP _ hj,kq,qfh N _ (hke _ hm),qs9,qI,qg,qj,cond_true,Bool.true_and,q8 (show j<4611686018427387904 by omega),rm,Bool.and_self,qbE]
   have e1:ddK t.2.2.1 (A++B) (j+1)=if qaA t.2.2.1 (A++B)[j]∈ddK t.2.2.1 (A++B) j then ddK t.2.2.1 (A++B) j else ddK t.2.2.1 (A++B) j++[qaA t.2.2.1 (A++B)[j]]:=by
    simp only [ddK,List.getElem?_eq_getElem hj]
   have e2:mmK t.2.2.1 (A++B) (j+1)=if qaA t.2.2.1 (A++B)[j]∈ddK t.2.2.1 (A++B) j then mmK t.2.2.1 (A++B) j else qmh (mmK t.2.2.1 (A++B) j) (qdE (qaA t.2.2.1 (A++B)[j])) true:=by
    simp only [mmK,List.getElem?_eq_getElem hj]
   rw [e1,e2]
   by_cases q:qaA t.2.2.1 (A++B)[j]∈ddK t.2.2.1 (A++B) j
   ·simp only [q,decide_true,Bool.not_true,cond_false,cond_true,if_true]
   ·simp only [q,decide_false,Bool.not_false,cond_true,if_false]
  ·have hnl:ltI (((A++B).length:Nat):Int) (qn (A++B))=false:=qaX (Nat.lt_irrefl _)
   have hdl:=qpn t.2.2.1 (A++B) (A++B).length
   rw [List.length_append] at hdl
   obtain ⟨K,k1,k2,k3⟩:=que N (ddK t.2.2.1 (A++B) (A++B).length) hB' (by rw [List.length_append]; omega) (fun r hr=>by
    obtain ⟨_,r0,_,_,rfl⟩:=(qpq _ _ _ _).1 hr
    exact hkl r0) (qot _ _ _)
   have hKm:∀k,k∈K↔(∃r∈A,qaA t.2.2.1 r=k)∨∃r∈B,qaA t.2.2.1 r=k:=fun k=>by
    rw [k2.mem_iff,qpq]
    constructor
    ·rintro ⟨j,r,_,h2,h3⟩
     rcases List.mem_append.1 (List.mem_of_getElem? h2) with hr|hr
     ·exact .inl ⟨r,hr,h3⟩
     ·exact .inr ⟨r,hr,h3⟩
    ·rintro (⟨r,hr,h3⟩|⟨r,hr,h3⟩)
     ·obtain ⟨j,hj,rfl⟩:=List.getElem_of_mem (List.mem_append_left B hr)
      exact ⟨j,_,hj,List.getElem?_eq_getElem hj,h3⟩
     ·obtain ⟨j,hj,rfl⟩:=List.getElem_of_mem (List.mem_append_right A hr)
      exact ⟨j,_,hj,List.getElem?_eq_getElem hj,h3⟩
   have hKl:K.length≤A.length+B.length:=by
    rw [k2.length_eq,List.length_append] at *
    exact hdl
   have hKenc:∀k∈K,k.length<N:=fun k hk=>by
    rcases (hKm k).1 hk with ⟨r,_,rfl⟩|⟨r,_,rfl⟩ <;> exact hkl r
   have hmerge:=qeZ t.1 t.2.2.1 _ A B K (Nat.le_refl _) sa sb k3 hKm
   have k1':qa8 N (ddK t.2.2.1 (A++B) (A++B).length,((fun x4=>(qhf (fun y5:((Int×Unit)×Unit)=>(y5.1.1,())) (qD N (x4.1,(x4.2.1,()))))),()))=some ((),(K,())):=k1
   simp only [hnl,cond_false,k1',qg,qj,cond_true,qI]
   rw [←hmerge]
   refine qjq (S:=List qe1×(Int×Unit)) (fun j=>(out++(K.take j).flatMap (qj4 t.1 t.2.2.1 A B),((j:Int),()))) K.length _ (by simp) (fun j hj ih3=> ?_) (fun ih3=> ?_) (by omega)
   ·have hkm:=List.getElem_mem hj
    have hfl:=qkw t.1 t.2.2.1 A B (K.take j)
    rw [List.length_take] at hfl
    have rm:∀c:qe1,qcI (qn (out++(K.take j).flatMap (qj4 t.1 t.2.2.1 A B))) (qn ([c]:List qe1)) 72=true:=fun c=>qeX (by simp only [List.length_append,List.length_cons,List.length_nil]; omega)
    have fa:=qmZ N t A K[j] ht.k (by omega) hB'
    have fb:=qmZ N t B K[j] ht.k (by omega) hB'
    have la:=qou sa K[j]
    have lb:=qou sb K[j]
    rw [qks _ hj,←List.append_assoc]
    simp only [qbC hj,qU hj,qP _ hj,fa,fb,qg,qj,cond_true,Bool.true_and,q8 (show j<4611686018427387904 by omega),rm,qbE]
    generalize qc5 (fun r=>qH (qaA t.2.2.1 r) K[j]) A=qa at *
    generalize qc5 (fun r=>qH (qaA t.2.2.1 r) K[j]) B=qb at *
    obtain ⟨ja,ya⟩:=qa
    obtain ⟨jb,yb⟩:=qb
    simp only at la lb⊢
    unfold qj4
    rcases lb with ⟨rfl,lb⟩|⟨hjb,rfl,lb⟩
    ·simp only [lb,Bool.not_false,cond_true,qrH]
    ·have eB:=qfh N _ (eb _ (List.getElem_mem hjb))
     rcases la with ⟨rfl,la⟩|⟨hja,rfl,la⟩
     ·simp only [la,lb,Bool.not_true,Bool.not_false,cond_false,cond_true,Bool.true_or,Bool.true_and,qU hjb,qP _ hjb,Bool.and_self,qn6]
     ·have eA:=qfh N _ (ea _ (List.getElem_mem hja))
      simp only [la,lb,Bool.not_true,Bool.not_false,cond_false,cond_true,Bool.false_or,Bool.true_and,qU hja,qU hjb,qP _ hja,qP _ hjb,eA,eB,qg,qj,qvq,Bool.and_self,qn6]
      by_cases e:A[ja]=B[jb]
      ·simp only [e,decide_true,Bool.not_true,cond_false,cond_true,if_true,List.append_nil]
      ·simp only [e,decide_false,Bool.not_false,cond_true,if_false]
   ·simp only
    rw [qE (qaX (Nat.lt_irrefl _)),List.take_length,q8 (show i<4611686018427387904 by omega)]
 ·simp only
  rw [qE (qaX (Nat.lt_irrefl _))]
def qt1 (s:qe) (a b:List qez):Int:=if qpi s≠0 then qpi s else if qgI s a≠0 then qgI s a else qgI s b
theorem qrx (N:Nat) (s:qe) (a b:List qez) (h:qog N s a b):
  qcQ N (s,(a,(b,())))=some (((if qt1 s a b≠0 then [] else qfQ s a b s.1.length),(qt1 s a b,())),()):=by
 have hB:=h.hB
 have hst:=h.ss.sm.t
 have hm:=h.ss.m
 obtain ⟨M,hM⟩:∃M,N=M+3:=⟨N - 3,by omega⟩
 have ca:=qmQ N s a h.ss h.ra
 have cb:=qmQ N s b h.ss h.rb
 have l0:ltI 0 (qn [a,b])=true:=by rw [qaN,qi]; simp
 have l1:ltI 1 (qn [a,b])=true:=by rw [qaN,qi]; simp
 have l2:ltI 2 (qn [a,b])=false:=by rw [qaN,qi]; simp
 have b0:inB 0 (qn [a,b])=true:=by rw [qca,qi]; simp
 have b1:inB 1 (qn [a,b])=true:=by rw [qca,qi]; simp
 have g0:qh [a,b] 0 []=a:=by rw [qb8]; rfl
 have g1:qh [a,b] 1 []=b:=by rw [qb8]; rfl
 have a0:qQ .i64 0 1=1:=q8 (i:=0) (by omega)
 have a1:qQ .i64 1 1=2:=q8 (i:=1) (by omega)
 simp only [qcQ,qI,qtv N s h.ss,qg,qj,cond_true]
 unfold qt1
 by_cases h0:qpi s≠0
 ·simp only [if_pos h0,neT h0,cond_true]
 simp only [if_neg h0,neF (show qpi s=0 by omega),cond_false]
 have two:∀ {R:Type} (st:(Int×Unit→Option R)→Int×Unit→Option R) (r:Option R),(∀ih,st ih (0,())=r)→qZ N st (0,())=r:=fun st r hr=>by
  rw [hM,qam]; exact hr _
 by_cases h1:qgI s a≠0
 ·refine two _ _ (fun ih=> ?_)
  simp only [l0,b0,g0,ca,qg,qj,cond_true,neT h1,if_pos h1]
 have two2:∀ {R:Type} (st:(Int×Unit→Option R)→Int×Unit→Option R) (r:Option R),(∀ih,st ih (0,())=ih (1,()))→(∀ih,st ih (1,())=r)→qZ N st (0,())=r:=fun st r hr hr2=>by
  rw [hM,qam,hr,qam,hr2]
 have e1:qgI s a=0:=by omega
 simp only [e1,ne_eq,not_true_eq_false,if_false]
 by_cases h2:qgI s b≠0
 ·refine two2 _ _ (fun ih=>by simp only [l0,b0,g0,ca,qg,qj,cond_true,neF e1,cond_false,a0]) (fun ih=> ?_)
  simp only [l1,b1,g1,cb,qg,qj,cond_true,neT h2,if_pos h2]
 have two3:∀ {R:Type} (st:(Int×Unit→Option R)→Int×Unit→Option R) (r:Option R),(∀ih,st ih (0,())=ih (1,()))→(∀ih,st ih (1,())=ih (2,()))→(∀ih,st ih (2,())=r)→qZ N st (0,())=r:=fun st r hr hr2 hr3=>by
  rw [hM,qam,hr,qam,hr2,qam,hr3]
 have e2:qgI s b=0:=by omega
 rw [if_neg h2,e2]
 have Fa:=qnA e1
 have Fb:=qnA e2
 refine two3 _ _ (fun ih=>by simp only [l0,b0,g0,ca,qg,qj,cond_true,neF e1,cond_false,a0]) (fun ih=>by simp only [l1,b1,g1,cb,qg,qj,cond_true,neF e2,cond_false,a1]) (fun ih=> ?_)
 simp only [l2,cond_false]
 refine qjq (S:=List qe1×(Int×Unit)) (fun i=>(qfQ s a b i,((i:Int),()))) s.1.length _ rfl (fun i hi ih=> ?_) (fun ih=> ?_) hst
 ·have ha:i<a.length:=by rw [Fa.len]; exact hi
  have hb:i<b.length:=by rw [Fb.len]; exact hi
  have ht:=h.ss.tab (List.getElem_mem hi)
  have hD:qfQ s a b (i+1)=qfQ s a b i++qdL (s.1[i]).1 (s.1[i]).2.2.1 (a[i]).2.1 (b[i]).2.1:=by
   simp only [qfQ,qly,List.getElem?_eq_getElem hi,List.getElem?_eq_getElem ha,List.getElem?_eq_getElem hb]
  have hol:=h.out i
  have hsum:=h.sum i _ _ (List.getElem?_eq_getElem ha) (List.getElem?_eq_getElem hb)
  have hdl:=qes (s.1[i]).1 (s.1[i]).2.2.1 _ (a[i]).2.1 (b[i]).2.1 (Nat.le_refl _)
  have dr:=qp1 N s.1[i] (a[i]).2.1 (b[i]).2.1 ht.k (by omega) hB (h.ra.row _ (List.getElem_mem ha)) (h.rb.row _ (List.getElem_mem hb))
  have rm:qcI (qn (qfQ s a b i)) (qn (qdL (s.1[i]).1 (s.1[i]).2.2.1 (a[i]).2.1 (b[i]).2.1)) 72=true:=qeX (by omega)
  rw [hD]
  simp only [qbC hi,qU hi,qU ha,qU hb,qP _ hi,qP _ ha,qP _ hb,dr,qg,qj,rm,Bool.and_self,cond_true,qbE,q8 (show i<4611686018427387904 by omega)]
 ·simp only
  rw [qE (qaX (Nat.lt_irrefl _))]
theorem qgu (n:List UInt8) (pk:List Int):(m:Nat)→(a b:List qaG)→a.length+b.length≤m→∀c∈qdL n pk a b,(∃r∈a,c=qrH n (qaA pk r))∨∃r∈b,c=qn6 n r
 |m,[],[],_,c,hc=>by rw [qjh] at hc; cases hc
 |0,a::ar,_,h,_,_=>by simp at h
 |0,[],b::bs,h,_,_=>by simp at h
 |m+1,a::ar,[],h,c,hc=>by
  rw [qh9] at hc
  rcases List.mem_cons.1 hc with rfl|hc
  ·exact .inl ⟨a,List.mem_cons_self,rfl⟩
  ·rcases qgu n pk m ar [] (by simp at h⊢; omega) c hc with ⟨r,hr,e⟩|⟨r,hr,e⟩
   ·exact .inl ⟨r,List.mem_cons_of_mem _ hr,e⟩
   ·cases hr
 |m+1,[],b::bs,h,c,hc=>by
  rw [qgE] at hc
  rcases List.mem_cons.1 hc with rfl|hc
  ·exact .inr ⟨b,List.mem_cons_self,rfl⟩
  ·rcases qgu n pk m [] bs (by simp at h⊢; omega) c hc with ⟨r,hr,e⟩|⟨r,hr,e⟩
   ·cases hr
   ·exact .inr ⟨r,List.mem_cons_of_mem _ hr,e⟩
 |m+1,a::ar,b::bs,h,c,hc=>by
  rw [qh0] at hc
  split at hc
  ·rcases List.mem_cons.1 hc with rfl|hc
   ·exact .inl ⟨a,List.mem_cons_self,rfl⟩
   ·rcases qgu n pk m ar (b::bs) (by simp at h⊢; omega) c hc with ⟨r,hr,e⟩|⟨r,hr,e⟩
    ·exact .inl ⟨r,List.mem_cons_of_mem _ hr,e⟩
    ·exact .inr ⟨r,hr,e⟩
  ·split at hc
   ·rcases List.mem_cons.1 hc with rfl|hc
    ·exact .inr ⟨b,List.mem_cons_self,rfl⟩
    ·rcases qgu n pk m (a::ar) bs (by simp at h⊢; omega) c hc with ⟨r,hr,e⟩|⟨r,hr,e⟩
     ·exact .inl ⟨r,hr,e⟩
     ·exact .inr ⟨r,List.mem_cons_of_mem _ hr,e⟩
   ·rcases List.mem_append.1 hc with hc|hc
    ·split at hc
     ·cases hc
     ·rw [List.mem_singleton] at hc
      exact .inr ⟨b,List.mem_cons_self,hc⟩
    ·rcases qgu n pk m ar bs (by simp at h⊢; omega) c hc with ⟨r,hr,e⟩|⟨r,hr,e⟩
     ·exact .inl ⟨r,List.mem_cons_of_mem _ hr,e⟩
     ·exact .inr ⟨r,List.mem_cons_of_mem _ hr,e⟩
theorem qmE {s:qe} {a b:List qez} {i:Nat} {c:qe1} (hc:c∈qly s a b i):∃t∈s.1,(∃x∈a,∃r∈x.2.1,c=qrH t.1 (qaA t.2.2.1 r))∨∃y∈b,∃r∈y.2.1,c=qn6 t.1 r:=by
 unfold qly at hc
 split at hc
 ·rename_i t x y h1 h2 h3
  refine ⟨t,List.mem_of_getElem? h1,?_⟩
  rcases qgu t.1 t.2.2.1 _ x.2.1 y.2.1 (Nat.le_refl _) c hc with ⟨r,hr,e⟩|⟨r,hr,e⟩
  ·exact .inl ⟨x,List.mem_of_getElem? h2,r,hr,e⟩
  ·exact .inr ⟨y,List.mem_of_getElem? h3,r,hr,e⟩
 ·cases hc
theorem qmb {s:qe} {a b:List qez} {c:qe1} :(n:Nat)→c∈qfQ s a b n→∃i,c∈qly s a b i
 |0,h=>by cases h
 |n+1,h=>by
  rcases List.mem_append.1 h with h|h
  ·exact qmb n h
  ·exact ⟨n,h⟩
theorem qsU:(qdE ([]:qaG)).length≤1099511627776:=qqO (r:=[]) (fun v hv=>by cases hv) (by simp)
theorem qog.esm {N:Nat} {s:qe} {a b:List qez} (h:qog N s a b) (n:Nat):qqq (qfQ s a b n) where
 ek c hc:=by
  obtain ⟨i,hc⟩:=qmb n hc
  obtain ⟨t,ht,⟨x,hx,r,hr,rfl⟩|⟨y,hy,r,hr,rfl⟩⟩:=qmE hc
  ·exact h.ka.kt x hx r hr t ht
  ·exact qsU
 er c hc:=by
  obtain ⟨i,hc⟩:=qmb n hc
  obtain ⟨t,ht,⟨x,hx,r,hr,rfl⟩|⟨y,hy,r,hr,rfl⟩⟩:=qmE hc
  ·exact qsU
  ·exact h.rb.enc y hy r hr
def qn7 (rels:List qez):Nat:=(rels.map (fun r=>r.2.1.length)).sum
theorem qhN (rels:List qez) (n:Nat):qn7 (rels.take n)≤qn7 rels:=by
 have:qn7 rels=qn7 (rels.take n)+qn7 (rels.drop n):=by
  unfold qn7
  rw [←List.sum_append,←List.map_append,List.take_append_drop]
 omega
theorem qow {rels:List qez} {n:Nat} {r:qez} (h:rels[n]? =some r):qn7 (rels.take (n+1))=qn7 (rels.take n)+r.2.1.length:=by
 obtain ⟨hn,rfl⟩:=List.getElem?_eq_some_iff.1 h
 unfold qn7
 rw [qcF hn,List.map_append,List.sum_append]; simp
theorem qrK {rels:List qez} {n:Nat} :qn7 (rels.take n)≤qn7 (rels.take (n+1)):=by
 have:=qhN (rels.take (n+1)) n
 rwa [List.take_take,Nat.min_eq_left (by omega)] at this
theorem qlz (s:qe) (a b:List qez):(n:Nat)→(qfQ s a b n).length≤qn7 (a.take n)+qn7 (b.take n)
 |0=>by simp [qfQ]
 |n+1=>by
  have ih:=qlz s a b n
  have h1:=qrK (rels:=a) (n:=n)
  have h2:=qrK (rels:=b) (n:=n)
  simp only [qfQ,List.length_append]
  unfold qly
  split
  ·rename_i t x y _ hx hy
   rw [qow hx,qow hy]
   have:=qes t.1 t.2.2.1 _ x.2.1 y.2.1 (Nat.le_refl _)
   omega
  ·simp; omega
theorem qja (rels:List qez):qn7 rels≤(rels.map qjK.bulk).sum:=by
 induction rels with
 |nil=>simp [qn7]
 |cons r rs ih=>
  have h:r.2.1.length≤qjK.bulk r:=by
   rw [qqD]
   have:=qho (Ty.slice qhA).bulk r.2.1 (fun x _=>qdB (.slice qhA) x)
   omega
  have e:qn7 (r::rs)=r.2.1.length+qn7 rs:=by simp [qn7]
  rw [e,List.map_cons,List.sum_cons]
  omega
theorem qiq.mono {N M:Nat} {rels:List qez} (h:qiq N rels) (hNM:N≤M):qiq M rels:=
 ⟨Nat.lt_of_lt_of_le h.n hNM,fun r hr=>Nat.lt_of_lt_of_le (h.rows r hr) hNM,fun r hr x hx=>Nat.lt_of_lt_of_le (h.row r hr x hx) hNM,h.enc⟩
theorem qrU {s:qe} {a b:List qez} (ga:(Ty.slice qjK).good a) (gb:(Ty.slice qjK).good b) (hb:qtI.bulk s+((Ty.slice qjK).bulk a+((Ty.slice qjK).bulk b+0))≤1048578):qog 5000000 s a b:=by
 have ea:(Ty.slice qjK).bulk a=(a.map qjK.bulk).sum+1:=rfl
 have eb:(Ty.slice qjK).bulk b=(b.map qjK.bulk).sum+1:=rfl
 have ia:=quK (b:=(a.map qjK.bulk).sum) ga (by omega)
 have ib:=quK (b:=(b.map qjK.bulk).sum) gb (by omega)
 have ta:=qja a
 have tb:=qja b
 refine ⟨(qtg (by omega)).mono (by omega) (by omega),(qo1 ia (by omega)).mono (by omega),(qo1 ib (by omega)).mono (by omega),qoT ia (by omega),qoT ib (by omega),by omega,fun n=> ?_,fun i x y hx hy=> ?_⟩
 ·have h1:=qlz s a b n
  have h2:=qhN a n
  have h3:=qhN b n
  omega
 ·have h1:=(ia.rows (List.mem_of_getElem? hx)).1
  have h2:=(ib.rows (List.mem_of_getElem? hy)).1
  omega
theorem law30 (x:qe×(List qez×(List qez×Unit))) (hg:qli [qaM,.slice qae,.slice qae] x) (hb:qkn [qaM,.slice qae,.slice qae] x≤1048576):∃N z,qa5 N x=some ((true,()),z):=by
 obtain ⟨s,a,b,⟨⟩⟩:=x
 have gs:qtI.good s:=hg.1
 have ga:(Ty.slice qjK).good a:=hg.2.1
 have gb:(Ty.slice qjK).good b:=hg.2.2.1
 have hb':qtI.bulk s+((Ty.slice qjK).bulk a+((Ty.slice qjK).bulk b+0))≤1048576:=hb
 have h:=qrU (s:=s) ga gb (by omega)
 have bf:∀f∈s.2.1,TFk.bulk f≤1048576:=fun f hf=>by
  obtain ⟨a,b,c,⟨⟩⟩:=s
  rw [qjo] at hb'
  have:=qfK TFk.bulk hf
  simp only at this
  omega
 have gf:∀f∈s.2.1,TFk.good f:=by
  obtain ⟨a,b,c,⟨⟩⟩:=s
  exact gs.2.1.2
 have hid:∀f∈s.2.1,(fkC f).length≤1099511627776:=fun f hf=>by have:=qp0 (gf f hf); have:=bf f hf; omega
 obtain ⟨N,hNe⟩:∃N,N=5000000:=⟨_,rfl⟩
 rw [←hNe] at h
 obtain ⟨M,hM⟩:∃M,N=M+4:=⟨N - 4,by omega⟩
 refine ⟨N,(),?_⟩
 have d1:=qrx N s a b h
 have v1:=qr9 N s h.ss hid
 have v2:=qmP N s a h.ss h.ra
 have v3:=qmP N s b h.ss h.rb
 have l0:∀p q r:Int,ltI 0 (qn [p,q,r])=true:=fun p q r=>by rw [qaN,qi]; simp
 have l1:∀p q r:Int,ltI 1 (qn [p,q,r])=true:=fun p q r=>by rw [qaN,qi]; simp
 have l2:∀p q r:Int,ltI 2 (qn [p,q,r])=true:=fun p q r=>by rw [qaN,qi]; simp
 have l3:∀p q r:Int,ltI 3 (qn [p,q,r])=false:=fun p q r=>by rw [qaN,qi]; simp
 have b0:∀p q r:Int,inB 0 (qn [p,q,r])=true:=fun p q r=>by rw [qca,qi]; simp
 have b1:∀p q r:Int,inB 1 (qn [p,q,r])=true:=fun p q r=>by rw [qca,qi]; simp
 have b2:∀p q r:Int,inB 2 (qn [p,q,r])=true:=fun p q r=>by rw [qca,qi]; simp
 have g0:∀p q r:Int,qh [p,q,r] 0 0=p:=fun p q r=>by rw [qb8]; rfl
 have g1:∀p q r:Int,qh [p,q,r] 1 0=q:=fun p q r=>by rw [qb8]; rfl
 have g2:∀p q r:Int,qh [p,q,r] 2 0=r:=fun p q r=>by rw [qb8]; rfl
 have a0:qQ .i64 0 1=1:=q8 (i:=0) (by omega)
 have a1:qQ .i64 1 1=2:=q8 (i:=1) (by omega)
 have a2:qQ .i64 2 1=3:=q8 (i:=2) (by omega)
 have ln:∀ {k:Int},eqI k k=true:=fun {k} =>eqT rfl
 have e0:eqI (qn ([]:List qe1)) 0=true:=by rw [qi]; exact eqT rfl
 simp only [qa5,qI,d1,v1,v2,v3,qg,qj,Bool.and_self,cond_true]
 rw [hM,qam]
 unfold qt1
 by_cases h0:qpi s≠0
 ·simp only [l0,b0,g0,cond_true,neT h0,if_pos h0,ln,e0,Bool.and_self]
 have z0:qpi s=0:=by omega
 simp only [l0,b0,g0,cond_true,z0,neF (rfl:(0:Int)=0),cond_false,a0,ne_eq,not_true_eq_false,if_false]
 rw [qam]
 by_cases h1:qgI s a≠0
 ·simp only [l1,b1,g1,cond_true,neT h1,if_pos h1,ln,e0,Bool.and_self]
 have z1:qgI s a=0:=by omega
 simp only [z1,l1,b1,g1,cond_true,neF (rfl:(0:Int)=0),cond_false,a1,ne_eq,not_true_eq_false,if_false]
 rw [qam]
 by_cases h2:qgI s b≠0
 ·simp only [l2,b2,g2,cond_true,neT h2,if_pos h2,ln,e0,Bool.and_self]
 have z2:qgI s b=0:=by omega
 simp only [z2,l2,b2,g2,cond_true,neF (rfl:(0:Int)=0),cond_false,a2,ne_eq,not_true_eq_false,if_false]
 rw [qam]
 have d2:=qpy N s a b h (qnA z1) (qnA z2)
 have he:=h.esm s.1.length
 have hlen:=qlz s a b s.1.length
 have h2a:=qhN a s.1.length
 have h2b:=qhN b s.1.length
 have hta:=qja a
 have htb:=qja b
 have eab:(Ty.slice qjK).bulk a=(a.map qjK.bulk).sum+1:=rfl
 have ebb:(Ty.slice qjK).bulk b=(b.map qjK.bulk).sum+1:=rfl
 have d3:=eqChgs N (qfQ s a b s.1.length) (qfQ s a b s.1.length) he he (by omega) (by omega)
 rw [hM] at d2 d3
 simp only [l3,cond_false,ln,d2,d3,qg,qj,Bool.or_true,Bool.and_self,cond_true,decide_true]
end
end Go.Proofs.YtfcdfdnlgfebmaaGreatDoor
