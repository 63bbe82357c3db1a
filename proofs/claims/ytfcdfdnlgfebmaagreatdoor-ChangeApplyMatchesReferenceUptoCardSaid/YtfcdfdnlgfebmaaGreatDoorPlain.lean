import Derived.Test.YtfcdfdnlgfebmaaGreatDoorFns
import Derived.Test.YtfcdfdnlgfebmaaGreatDoorViXD
import Derived.Test.YtfcdfdnlgfebmaaGreatDoorViXE
set_option linter.unusedVariables false
set_option linter.unusedSimpArgs false
set_option linter.unnecessarySimpa false
set_option linter.unusedSectionVars false
set_option linter.unusedSimpArgs false
set_option maxRecDepth 100000
namespace Go.Proofs.YtfcdfdnlgfebmaaGreatDoor
open Go.Vi
noncomputable section
def qh6 (c:UInt8):Bool:=decide (97≤c.toNat)&&decide (c.toNat≤122)
def qjv (c:UInt8):Bool:=decide (48≤c.toNat)&&decide (c.toNat≤57)
def nameOk (s:List UInt8):Bool:=match s with
 |[]=>false
 |c::r=>decide ((c::r).length≤12)&&(qh6 c&&r.all fun c=>qh6 c||qjv c)
theorem qfG (c:UInt8):qcP c=(c.toNat:Int):=qgv c
theorem qvQ (c:UInt8):(ltI (qcP c) 97||ltI 122 (qcP c))= !qh6 c:=by
 rw [qfG,qbd,qbd,qh6]
 rw [Bool.eq_iff_iff]
 simp only [Bool.or_eq_true,decide_eq_true_eq,Bool.not_eq_true',Bool.and_eq_false_iff,decide_eq_false_iff_not]
 omega
theorem qvq (c:UInt8):(ltI (qcP c) 48||ltI 57 (qcP c))= !qjv c:=by
 rw [qfG,qbd,qbd,qjv]
 rw [Bool.eq_iff_iff]
 simp only [Bool.or_eq_true,decide_eq_true_eq,Bool.not_eq_true',Bool.and_eq_false_iff,decide_eq_false_iff_not]
 omega
def qkB (av:List Bool) (c:UInt8):Bool:=qi av (qcP c) false
theorem qnM (N:Nat) (av:List Bool) (c:UInt8):qay N (av,(qcP c,()))=some ((qkB av c,()),(av,())):=by
 simp only [qay]
 rw [qC (by rw [qfG,qdr]; have:=c.toNat_lt; simp; omega)]
 rfl
theorem qrU (N:Nat) (av:List Bool) (s:List UInt8) (hN:s.length<N):qbL N (s,(av,()))=some ((s.dropWhile (qkB av),()),(av,())):=by
 simp only [qbL]
 refine qcR (S:=(List UInt8)×((List Bool)×Unit)) (R:=((List UInt8)×Unit)×((List Bool)×Unit)) (fun p=>p.1.length) (fun p=>p.2.1=av) (fun p=>((p.1.dropWhile (qkB av),()),(av,()))) ?_ N _ rfl hN
 rintro ih ⟨s,av',_⟩ h2 hih
 simp only at h2 hih⊢
 subst h2
 cases s with
 |nil=>rw [qD (by rw [qbd,qj]; rfl)]; rfl
 |cons c r=>
  have hg:qi (c::r) 0 0=c:=qjO (i:=0) rfl
  rw [qC (by rw [qbd,qj]; simp)]
  simp only [hg,qnM,qf,qh,Bool.and_true]
  rw [qC (show inB 0 (qn (c::r))=true from qK (i:=0) (by simp))]
  by_cases h:qkB av' c=true
  ·rw [qD (by simp [h]),qC (show inS 1 (qn (c::r)) (qn (c::r))=true from qsR (i:=1) (by simp)),show qar (c::r) 1 (qn (c::r))=r from qtE _ 1,hih (r,(av',())) rfl (by simp)]
   simp [List.dropWhile_cons,h]
  ·rw [qC (by simpa using h)]
   simp [List.dropWhile_cons,h]
def qm2 (p:UInt8→Bool) (s:List UInt8):List UInt8:=(s.reverse.dropWhile p).reverse
theorem qtZ (p:UInt8→Bool) (s:List UInt8) (c:UInt8):qm2 p (s++[c])=if p c=true then qm2 p s else s++[c]:=by
 simp only [qm2,List.reverse_append,List.reverse_cons,List.reverse_nil,List.nil_append,List.cons_append,List.dropWhile_cons]
 split <;> simp
theorem qrd (N:Nat) (av:List Bool) (s:List UInt8) (hN:s.length<N) (hl:s.length<4000000000000000000):qaA N (s,(av,()))=some ((qm2 (qkB av) s,()),(av,())):=by
 simp only [qaA]
 refine qcR (S:=(List UInt8)×((List Bool)×Unit)) (R:=((List UInt8)×Unit)×((List Bool)×Unit)) (fun p=>p.1.length) (fun p=>p.2.1=av∧p.1.length<4000000000000000000) (fun p=>((qm2 (qkB av) p.1,()),(av,()))) ?_ N _ ⟨rfl,hl⟩ hN
 rintro ih ⟨s,av',_⟩ ⟨h2,h3⟩ hih
 simp only at h2 h3 hih⊢
 subst h2
 rcases List.eq_nil_or_concat s with rfl|⟨r,c,rfl⟩
 ·rw [qD (by rw [qbd,qj]; rfl)]; rfl
 ·rw [List.concat_eq_append] at h3 hih⊢
  simp only [List.length_append,List.length_cons,List.length_nil] at h3
  have el:qT .i64 (qn (r++[c])) 1=(r.length:Int):=by
   have e:((r++[c]).length:Int)=(r.length:Int)+1:=by simp
   rw [qj,e,qam (by omega) (by omega)]; omega
  have hg:qi (r++[c]) (r.length:Int) 0=c:=qjO (by simp)
  rw [qC (by rw [qbd,qj]; simp)]
  simp only [el,hg,qnM,qf,qh,Bool.and_true]
  rw [qC (qK (by simp)),qtZ]
  by_cases h:qkB av' c=true
  ·rw [qD (by simp [h]),qC (by rw [qlW,qj]; simp; omega),qnh,if_pos h]
   have e:(r++[c]).take r.length=r:=by simp
   rw [e,hih (r,(av',())) ⟨rfl,by simp only; omega⟩ (by simp)]
  ·rw [qC (by simpa using h),if_neg h]
theorem qle {p:UInt8→Bool} :(s:List UInt8)→(s.dropWhile p=[]↔s.all p=true)
 |[]=>by simp
 |c::r=>by
  rw [List.dropWhile_cons,List.all_cons]
  by_cases h:p c=true
  ·rw [if_pos h,qle r,h]; simp
  ·rw [if_neg h]; simp [h]
theorem qk5 {p:UInt8→Bool} :(s:List UInt8)→(s.dropWhile p).all p=s.all p
 |[]=>rfl
 |c::r=>by
  rw [List.dropWhile_cons]
  by_cases h:p c=true
  ·rw [if_pos h,qk5 r]; simp [h]
  ·rw [if_neg h]
theorem qxa {p:UInt8→Bool} (s:List UInt8):((qm2 p s).dropWhile p=[])↔s.all p=true:=by
 rw [qle,qm2,List.all_reverse,qk5,List.all_reverse]
def qep:List UInt8:=[97,98,99,100,101,102,103,104,105,106,107,108,109,110,111,112,113,114,115,116,117,118,119,120,121,122,48,49,50,51,52,53,54,55,56,57]
def qun (i:Nat):List Bool:=(qep.take i).foldl (fun av c=>av.set c.toNat true) (List.replicate 256 false)
theorem qyI:∀m:Fin 256,(qun 36).getD m.val false=((decide (97≤m.val)&&decide (m.val≤122))||(decide (48≤m.val)&&decide (m.val≤57))):=by decide+kernel
theorem qpS:∀c∈qep,c.toNat<128:=by decide+kernel
theorem qw3 (c:UInt8):qkB (qun 36) c=(qh6 c||qjv c):=by
 rw [qkB,qfG,qdf,Int.toNat_natCast]
 exact qyI ⟨c.toNat,c.toNat_lt⟩
theorem qtQ (N:Nat) (hN:40<N):qao N (qep,())=some ((qun 36,(true,())),()):=by
 simp only [qao]
 refine qhY (S:=(List Bool)×(Int×Unit)) (fun i=>(qun i,((i:Int),()))) 36 _ rfl ?_ ?_ (by omega)
 ·intro i hi ih
  have hl:i<qep.length:=hi
  have hg:qi qep (i:Int) 0=qep[i]:=qjO (List.getElem?_eq_getElem hl)
  have hs:=qpS qep[i] (List.getElem_mem hl)
  rw [qC (qaW hl),qC (qK hl),hg,qD (by rw [qa3,qfG]; simp; omega),qC (by rw [qfG,qdr]; simp; omega),qQ (by omega)]
  have e:qun (i+1)=(qun i).set qep[i].toNat true:=by
   rw [qun,qba hl,List.foldl_append]; rfl
  simp only [e,qbj,qfG,Int.toNat_natCast]
 ·intro ih
  rw [qD (qax (show ¬36<qep.length by decide))]
theorem qyX (N:Nat) (s:List UInt8) (hs:s≠[]) (hl:s.length<4000000000000000000) (hN:s.length+40<N):qdV N (s,(qep,()))=some (((qm2 (qkB (qun 36)) s).dropWhile (qkB (qun 36)),()),()):=by
 have hrl:(qm2 (qkB (qun 36)) s).length≤s.length:=by
  have:∀(p:UInt8→Bool) (l:List UInt8),(l.dropWhile p).length≤l.length:=fun p l=>(List.dropWhile_sublist p).length_le
  rw [qm2,List.length_reverse]
  exact Nat.le_trans (this _ _) (by simp)
 simp only [qdV,qG,qtQ N (by omega),qf,qh,cond_true,qrd N _ s (by omega) hl,qrU N _ (qm2 (qkB (qun 36)) s) (by omega),Bool.and_self]
 rw [qD (by rw [qch,qch]; simp [hs,qep]),qC (by rw [show eqI (qn qep) 1=false from by rw [qbC,qj]; rfl]; rfl),qD (by rw [show eqI (qn qep) 1=false from by rw [qbC,qj]; rfl]; rfl)]
def az:List UInt8:=[97,98,99,100,101,102,103,104,105,106,107,108,109,110,111,112,113,114,115,116,117,118,119,120,121,122]
theorem az_is:∀m:Fin 256,decide (0≤Lib.indexByte az (UInt8.ofNat m.val))=(decide (97≤m.val)&&decide (m.val≤122)):=by decide+kernel
theorem qxD (c:UInt8):leI 0 (Lib.indexByte az c)=qh6 c:=by
 have:=az_is ⟨c.toNat,c.toNat_lt⟩
 simp only [UInt8.ofNat_toNat] at this
 rw [qa3,this,qh6]
theorem qsw (N:Nat) (c:UInt8):qcm N (az,([c],()))=some ((qh6 c,()),()):=by
 simp only [qcm,qel,qbK,qqq,qf,qh,cond_true,qxD]
theorem qpc (N:Nat) (s:List UInt8) (hN:100<N):qbm N (s,())=some ((nameOk s,()),()):=by
 simp only [qbm]
 cases s with
 |nil=>
  have e:eqS ([]:List UInt8) []=true:=by rw [qch]; simp
  simp only [e]
  rfl
 |cons c r=>
  have e1:eqS (c::r) []=false:=by rw [qch]; simp
  have e2:leI (qn (c::r)) 12=decide ((c::r).length≤12):=by rw [qa3,qj]; exact decide_eq_decide.2 (by omega)
  have e3:inS 0 1 (qn (c::r))=true:=by rw [qjj,qj]; simp; omega
  have e4:qar (c::r) 0 1=[c]:=by rw [qcj]; rfl
  have e5:=qsw N c
  unfold az at e5
  rw [e1,e2,e3,e4,e5]
  by_cases h:(c::r).length≤12
  ·have e6:=qyX N (c::r) (by simp) (by omega) (by omega)
   unfold qep at e6
   rw [e6]
   simp only [h,decide_true,Bool.not_false,Bool.true_and,Bool.and_true,Bool.not_true,Bool.false_or,qf,qh,Bool.or_true,cond_true]
   congr 3
   rw [qch,nameOk]
   simp only [h,decide_true,Bool.true_and]
   have key:decide ((qm2 (qkB (qun 36)) (c::r)).dropWhile (qkB (qun 36))=[])=(c::r).all (fun c=>qh6 c||qjv c):=by
    rw [Bool.eq_iff_iff,decide_eq_true_iff,qxa]
    simp only [List.all_eq_true,qw3]
   rw [key,List.all_cons]
   cases qh6 c <;> simp
  ·have h':decide ((c::r).length≤12)=false:=decide_eq_false h
   rw [nameOk]
   simp only [h',Bool.and_false,Bool.false_and,Bool.not_false,Bool.true_or,Bool.and_self,cond_true]
theorem qmP (N:Nat) (s:List UInt8) (hl:s.length≤4000000000000000000) (hN:s.length<N):qbO N (s,())=some ((nameOk s,()),()):=by
 simp only [qbO,qG]
 cases s with
 |nil=>
  have e1:ltI (qn ([]:List UInt8)) 1=true:=by rw [qbd,qj]; rfl
  simp [e1,nameOk]
 |cons c r=>
  have hg:qi (c::r) 0 0=c:=qjO (i:=0) rfl
  have e1:ltI (qn (c::r)) 1=false:=by rw [qbd,qj]; simp; omega
  have e2:ltI 12 (qn (c::r))= !decide ((c::r).length≤12):=by
   rw [qbd,qj]
   by_cases h:(c::r).length≤12
   ·simp only [h,decide_true,Bool.not_true,decide_eq_false_iff_not]; omega
   ·simp only [h,decide_false,Bool.not_false,decide_eq_true_eq]; omega
  have e3:inB 0 (qn (c::r))=true:=qK (i:=0) (by simp)
  have e4:(leI 48 (qcP c)&&leI (qcP c) 57)=qjv c:=by
   rw [qfG,qa3,qa3,qjv]
   congr 1 <;> exact decide_eq_decide.2 (by omega)
  rw [e1,e2,e3,hg,e4]
  simp only [Bool.or_true,Bool.and_self,cond_true]
  by_cases h:(c::r).length≤12
  ·simp only [h,decide_true,Bool.not_true,Bool.or_self,Bool.false_or]
   by_cases hd:qjv c=true
   ·have hlow:qh6 c=false:=by
     simp only [qjv,qh6,Bool.and_eq_true,decide_eq_true_eq] at hd⊢
     simp; omega
    rw [hd,cond_true,nameOk,hlow]
    simp
   ·have hd:qjv c=false:=by simpa using hd
    rw [hd,cond_false]
    refine (qaj (S:=Int×Unit) (R:=(Bool×Unit)×Unit) (fun i=>((i:Int),())) (c::r).length (fun i=>if h:i<(c::r).length then (if qh6 (c::r)[i]||qjv (c::r)[i] then none else some ()) else none) (fun _=>some ((false,()),())) (some ((true,()),())) rfl (fun i hi _ ih=> ?_) (fun _ ih=> ?_) hN).trans ?_
    rotate_left
    rotate_left
    ·have key:(qac (fun i=>if h:i<(c::r).length then (if qh6 (c::r)[i]||qjv (c::r)[i] then none else some ()) else none) (c::r).length).isNone=(c::r).all (fun c=>qh6 c||qjv c):=by
      rw [Bool.eq_iff_iff,List.all_eq_true]
      constructor
      ·intro hn x hx
       obtain ⟨i,hi,rfl⟩:=List.getElem_of_mem hx
       have:=qaP (Option.isNone_iff_eq_none.1 hn) i hi
       rw [dif_pos hi] at this
       by_cases hb:(qh6 (c::r)[i]||qjv (c::r)[i])=true
       ·exact hb
       ·rw [if_neg hb] at this; cases this
      ·intro ha
       rw [Option.isNone_iff_eq_none]
       cases hf:qac (fun i=>if h:i<(c::r).length then (if qh6 (c::r)[i]||qjv (c::r)[i] then none else some ()) else none) (c::r).length with
       |none=>rfl
       |some u=>
        obtain ⟨i,hi,hg,_⟩:=qc7 hf
        rw [dif_pos hi,if_pos (ha _ (List.getElem_mem hi))] at hg
        cases hg
     rw [nameOk]
     simp only [h,decide_true,Bool.true_and]
     rw [List.all_cons,hd,Bool.or_false] at key
     rw [←key]
     cases qac (fun i=>if h:i<(c::r).length then (if qh6 (c::r)[i]||qjv (c::r)[i] then none else some ()) else none) (c::r).length <;> rfl
    ·have hlb:qn (qf3 (c::r))=qn (c::r):=by rw [qj,qj,qd8,List.length_map]
     have hgi:qi (qf3 (c::r)) (i:Int) 0=qcP (c::r)[i]:=by
      rw [qd8]
      exact qjO (by rw [List.getElem?_map,List.getElem?_eq_getElem hi]; rfl)
     simp only
     rw [hlb,qC (qaW hi),qC (qK hi),hgi,qvQ,qvq,qQ (by omega),dif_pos hi]
     cases qh6 (c::r)[i] <;> cases qjv (c::r)[i] <;> rfl
    ·have hlb:qn (qf3 (c::r))=qn (c::r):=by rw [qj,qj,qd8,List.length_map]
     simp only
     rw [hlb,qD (qax (Nat.lt_irrefl _))]
  ·have h':decide ((c::r).length≤12)=false:=decide_eq_false h
   rw [nameOk]
   simp only [h',Bool.not_false,Bool.false_and,Bool.false_or,Bool.true_or,cond_true]
end
end Go.Proofs.YtfcdfdnlgfebmaaGreatDoor
namespace Go.Proofs.YtfcdfdnlgfebmaaGreatDoor
open Go.Vi
noncomputable section
theorem qtg (N:Nat) (s:List UInt8) (h:(qeC s).length≤1099511627776):qbx N (s,())=some ((qeC s,()),()):=by
 have hl:(Lib.itoa (s.length:Int)).length+1+s.length≤1099511627776:=by
  unfold qeC at h
  simp only [List.length_append,List.length_cons] at h
  omega
 simp only [qbx,qbs,qf,qh,Bool.true_and,qj s,qbo]
 rw [quI (by omega) (by simp)]
 rw [←qj s,quI (by rw [qj]; simp only [List.length_append,List.length_cons,List.length_nil]; omega) (by omega)]
 rw [qj]
 simp [qeC]
theorem qp1 {α:Type} (f:α→List UInt8) (l:List α) (i:Nat):(((l.take i).map f).flatten).length≤((l.map f).flatten).length:=by
 have e:l.map f=(l.take i).map f++(l.drop i).map f:=by rw [←List.map_append,List.take_append_drop]
 rw [e,List.flatten_append,List.length_append]
 omega
theorem qwf {α:Type} (f:α→List UInt8) (l:List α) {i:Nat} (hi:i<l.length):((l.take (i+1)).map f).flatten=((l.take i).map f).flatten++f l[i]:=by
 rw [qba hi,List.map_append,List.flatten_append,List.map_cons,List.map_nil,List.flatten_cons,List.flatten_nil,List.append_nil]
theorem qoy (N:Nat) (f:qI) (hN:f.2.1.length<N) (h:(fkC f).length≤1099511627776) (hb:f.2.1.length≤1099511627776):qbQ N (f,())=some ((fkC f,()),()):=by
 obtain ⟨t,cs,r,⟨⟩⟩:=f
 simp only at hN hb
 have h0:(qeC t).length+(qeC r).length+(qiR cs).length≤1099511627776:=by
  unfold fkC at h
  simp only [List.length_append] at h
  omega
 simp only [qbQ,qG]
 rw [qtg N t (by omega),qtg N r (by omega)]
 simp only [qf,qh,Bool.true_and]
 rw [qC (quI (by omega) (by omega))]
 refine qhY (S:=qbJ) (fun i=>(qeC t++(qeC r++qiR (cs.take i)),((i:Int),()))) cs.length _ (by simp [qbo,qiR]) (fun i hi ih=> ?_) (fun ih=> ?_) hN
 ·have h1:(qiR (cs.take (i+1))).length≤(qiR cs).length:=qp1 _ _ _
  have e1:qiR (cs.take (i+1))=qiR (cs.take i)++44::Lib.itoa cs[i]:=qwf _ _ hi
  rw [e1,List.length_append,List.length_cons] at h1
  simp only
  rw [qC (qaW hi),qK hi,cond_true,qF _ hi]
  simp only [qbs,qf,qh,Bool.true_and,qbo]
  rw [quI (by simp) (by omega),quI (by simp only [List.length_append]; omega) (by simp only [List.length_append,List.length_cons,List.length_nil]; omega)]
  simp only [Bool.and_self,cond_true]
  rw [qQ (by omega),e1]
  simp
 ·simp only
  rw [qD (qax (Nat.lt_irrefl _)),List.take_length]
  rfl
theorem qdk (N:Nat) (r:List qc) (h:(qdD r).length≤1099511627776):qx N (r,())=some ((qdD r,()),()):=by
 rw [qx,if_pos h]
set_option synthInstance.maxHeartbeats 400000 in
set_option synthInstance.maxSize 4000 in
instance decTable:DecidableEq qs:=inferInstance
set_option synthInstance.maxHeartbeats 400000 in
set_option synthInstance.maxSize 4000 in
instance dec0:DecidableEq qc:=inferInstance
set_option synthInstance.maxHeartbeats 400000 in
set_option synthInstance.maxSize 4000 in
instance dec1:DecidableEq qX:=inferInstance
instance dec2:DecidableEq qI:=inferInstance
instance dec3:DecidableEq (List qX×Unit):=instDecidableEqProd
instance dec4:DecidableEq (List qI×(List qX×Unit)):=instDecidableEqProd
instance decSch:DecidableEq qe:=instDecidableEqProd
theorem qwd (N:Nat) (xs ys:List Int) (hN:xs.length<N) (hb:xs.length≤1099511627776):qcG N (xs,(ys,()))=some ((decide (xs=ys),()),()):=by
 simp only [qcG]
 by_cases hl:xs.length=ys.length
 ·rw [qD (by rw [qaG,qj,qj,hl]; simp)]
  exact qnP (ne:=neI) (fun a b=>qaG a b) xs ys 0 hl hb hN
 ·rw [qC (by rw [qaG,qj,qj]; simp; omega)]
  have:xs≠ys:=fun h=>hl (by rw [h])
  simp [this]
theorem qtF (N:Nat) (a b:qI) (hN:a.2.1.length<N) (hB:N≤1099511627776):qbu N (a,(b,()))=some ((decide (a=b),()),()):=by
 obtain ⟨a1,a2,a3,⟨⟩⟩:=a
 obtain ⟨b1,b2,b3,⟨⟩⟩:=b
 simp only at hN
 simp only [qbu,qwd N a2 b2 hN (by omega),qf,qh,qch,Bool.or_true,cond_true,Prod.mk.injEq,and_true,Bool.decide_and,Bool.and_assoc]
theorem qwP {α:Type} [DecidableEq α] (f:(α×(α×Unit))→Option (Bool×Unit)) (xs ys:List α) (d:α) (hf:∀a∈xs,∀b,f (a,(b,()))=some (decide (a=b),())) (N:Nat) (hN:xs.length<N) (hb:xs.length≤1099511627776):
  (bif (neI (qn xs) (qn ys)) then (some ((false,()),())) else (qab (S:=(Int×Unit)) (R:=((Bool×Unit)×Unit)) N (fun ih0=>(fun p1=>(bif (ltI p1.1 (qn xs)) then (bif (inB p1.1 (qn xs)) then (bif (inB p1.1 (qn ys)) then (bif (qt (f ((qi xs p1.1 d),((qi ys p1.1 d),())))) then (bif (!(qr (f ((qi xs p1.1 d),((qi ys p1.1 d),()))) (false,())).1) then (some ((false,()),())) else (ih0 ((qS .i64 p1.1 1),()))) else none) else none) else none) else (some ((true,()),()))))) (0,())))=some ((decide (xs=ys),()),()):=by
 by_cases hl:xs.length=ys.length
 ·rw [qD (by rw [qaG,qj,qj,hl]; simp)]
  have:=qnP (ne:=fun (a b:α)=> !decide (a=b)) (fun a b=>rfl) xs ys d hl hb hN
  rw [←this]
  congr 1
  funext ih p
  by_cases hlt:ltI p.1 (qn xs)=true
  ·rw [hlt]
   simp only [cond_true]
   by_cases hin:inB p.1 (qn xs)=true
   ·have hin2:inB p.1 (qn ys)=true:=by rw [qj] at hin⊢; rw [←hl]; exact hin
    rw [hin,hin2]
    have hm:qi xs p.1 d∈xs:=by
     rw [qcZ,decide_eq_true_iff,qj] at hin
     rw [qdf,List.getD_eq_getElem?_getD,List.getElem?_eq_getElem (show p.1.toNat<xs.length by omega)]
     exact List.getElem_mem _
    simp only [cond_true,hf _ hm,qf,qh,Bool.and_self]
   ·simp [hin]
  ·simp [hlt]
 ·rw [qC (by rw [qaG,qj,qj]; simp; omega)]
  have:xs≠ys:=fun h=>hl (by rw [h])
  simp [this]
structure Small (N:Nat) (s:qe):Prop where
 n:N≤1099511627776
 t:s.1.length<N
 f:s.2.1.length<N
 c:s.2.2.1.length<N
 tc:∀t∈s.1,t.2.1.length<N
 tk:∀t∈s.1,t.2.2.1.length<N
 fc:∀f∈s.2.1,f.2.1.length<N
 tn:∀t∈s.1,t.1.length<N
 cn:∀t∈s.1,∀c∈t.2.1,c.1.length<N
end
end Go.Proofs.YtfcdfdnlgfebmaaGreatDoor
namespace Go.Proofs.YtfcdfdnlgfebmaaGreatDoor
open Go.Vi
noncomputable section
def atE {α:Type} (q:α→Bool) (xs:List α) (i:Nat):Option Nat:=match xs[i]? with
 |some x=>if q x=true then some i else none
 |none=>none
def qke {α:Type} (q:α→Bool) (xs:List α):Option Nat:=qac (atE q xs) xs.length
theorem qhZ {α:Type} {q:α→Bool} {xs:List α} {i:Nat} (h:qke q xs=some i):∃hi:i<xs.length,q xs[i]=true∧∀j (hj:j<i),q (xs[j]'(by omega))=false:=by
 obtain ⟨k,h1,h2,h3⟩:=qc7 h
 have hk:xs[k]? =some xs[k]:=List.getElem?_eq_getElem h1
 simp only [atE,hk] at h2
 split at h2
 ·rename_i hq
  injection h2 with h2
  subst h2
  refine ⟨h1,hq,fun j hj=> ?_⟩
  have:=qaP h3 j hj
  simp only [atE,List.getElem?_eq_getElem (show j<xs.length by omega)] at this
  split at this
  ·cases this
  ·rename_i hn; simpa using hn
 ·cases h2
theorem qk2 {α:Type} {q:α→Bool} {xs:List α} (h:qke q xs=none):∀x∈xs,q x=false:=fun x hx=>by
 obtain ⟨i,hi,rfl⟩:=List.getElem_of_mem hx
 have:=qaP h i hi
 simp only [atE,List.getElem?_eq_getElem hi] at this
 split at this
 ·cases this
 ·rename_i hn; simpa using hn
def qmn {α:Type} (q:α→Bool) (xs:List α):Int:=match qke q xs with
 |some i=>(i:Int)
 |none=> -1
theorem qfp {α:Type} (f:(α×Unit)→Option (Bool×Unit)) (q:α→Bool) (xs:List α) (hf:∀a∈xs,f (a,())=some (q a,())) (d:α) (N:Nat) (hN:xs.length<N) (hb:xs.length≤1099511627776):
  (qab (S:=(Int×Unit)) (R:=((Int×Unit)×Unit)) N (fun ih0=>(fun p1=>(bif (ltI p1.1 (qn xs)) then (bif ((inB p1.1 (qn xs))&&(qt (f ((qi xs p1.1 d),())))) then (qR (qr (f ((qi xs p1.1 d),())) (false,())).1 (fun y2=>(bif y2 then (some ((p1.1,()),())) else (ih0 ((qS .i64 p1.1 1),()))))) else none) else (some (((-1),()),()))))) (0,()))=some ((qmn q xs,()),()):=by
 refine (qaj (S:=Int×Unit) (fun i=>((i:Int),())) xs.length (atE q xs) (fun i=>some (((i:Int),()),())) (some ((-1,()),())) rfl (fun i hi _ ih=> ?_) (fun _ ih=> ?_) hN).trans ?_
 ·simp only [qG]
  rw [qC (qaW hi),qF _ hi,hf _ (List.getElem_mem hi),qf,qh,Bool.and_true,qC (qK hi),qQ (by omega)]
  simp only [atE,List.getElem?_eq_getElem hi]
  cases q xs[i] <;> rfl
 ·simp only
  rw [qD (qax (Nat.lt_irrefl _))]
 ·rw [qmn,qke]
  cases qac (atE q xs) xs.length <;> rfl
theorem qs1 {α:Type} (q:α→Bool) (xs:List α):qyZ (qmn q xs) 0=(((qke q xs).getD 0:Nat):Int):=by
 rw [qmn,qpO]
 cases qke q xs with
 |none=>rfl
 |some i=>simp only [Option.getD_some]; split <;> omega
theorem qqc {α:Type} (q:α→Bool) (xs:List α):leI 0 (qmn q xs)=(qke q xs).isSome:=by
 rw [qmn,qa3]
 cases qke q xs with
 |none=>rfl
 |some i=>simp
def qo0 (n:List UInt8) (c:qg):Bool:=decide (c.1=n)
def qdh (n:List UInt8) (t:qs):Bool:=decide (t.1=n)
theorem qqs (N:Nat) (t:qs) (n:List UInt8) (hN:t.2.1.length<N) (hB:N≤1099511627776):qcB N (t,(n,()))=some (((((qke (qo0 n) t.2.1).getD 0:Nat):Int),((qke (qo0 n) t.2.1).isSome,())),()):=by
 simp only [qcB,qG]
 have h:=qfp (fun x0=>(qf7 (fun y1:((Bool×Unit)×Unit)=>(y1.1.1,())) (qbH N (x0.1,(n,()))))) (qo0 n) t.2.1 (fun a _=>by simp only [qbH,qck,Option.map_some,qch,qo0]) (([]:List UInt8),(0,(false,()))) N hN (by omega)
 rw [show qbw N (t.2.1,((fun x0=>(qf7 (fun y1=>(y1.1.1,())) (qbH N (x0.1,(n,()))))),()))=some ((qmn (qo0 n) t.2.1,()),()) from h]
 simp only [qf,qh,cond_true,qs1,qqc]
theorem qfv (N:Nat) (s:qe) (n:List UInt8) (hN:s.1.length<N) (hB:N≤1099511627776):qY N (s,(n,()))=some (((((qke (qdh n) s.1).getD 0:Nat):Int),((qke (qdh n) s.1).isSome,())),()):=by
 simp only [qY,qG]
 have h:=qfp (fun x0=>(qf7 (fun y1:((Bool×Unit)×Unit)=>(y1.1.1,())) (qbX N (x0.1,(n,()))))) (qdh n) s.1 (fun a _=>by simp only [qbX,qck,Option.map_some,qch,qdh]) (([]:List UInt8),(([]:List qg),(([]:List Int),()))) N hN (by omega)
 rw [show qbI N (s.1,((fun x0=>(qf7 (fun y1=>(y1.1.1,())) (qbX N (x0.1,(n,()))))),()))=some ((qmn (qdh n) s.1,()),()) from h]
 simp only [qf,qh,cond_true,qs1,qqc]
def qgF (s:qe) (n:List UInt8):Option qs:=(qke (qdh n) s.1).bind fun i=>s.1[i]?
theorem qgl (N:Nat) (s:qe) (n:List UInt8) (hN:s.1.length<N) (hB:N≤1099511627776):qv N (s,(n,()))=some ((qgF s n,()),()):=by
 simp only [qv]
 refine (qaj (S:=Int×Unit) (fun i=>((i:Int),())) s.1.length (atE (qdh n) s.1) (fun i=>some ((s.1[i]?,()),())) (some ((none,()),())) rfl (fun i hi _ ih=> ?_) (fun _ ih=> ?_) hN).trans ?_
 ·simp only
  rw [qC (qaW hi),qK hi,qF _ hi,qQ (by omega),qch]
  simp only [atE,List.getElem?_eq_getElem hi,qdh,cond_true,decide_eq_true_eq]
  by_cases hq:(s.1[i]).1=n <;> simp [hq]
 ·simp only
  rw [qD (qax (Nat.lt_irrefl _))]
 ·rw [qgF,qke]
  cases qac (atE (qdh n) s.1) s.1.length <;> rfl
structure qoF (N:Nat) (t:qs):Prop where
 n:N≤1099511627776
 m:100<N
 nm:t.1.length<N
 c:t.2.1.length<N
 k:t.2.2.1.length<N
 cn:∀c∈t.2.1,c.1.length<N
open Classical in
def qx3 (cs:List qg) (i:Nat):Option Int:=match cs[i]? with
 |none=>none
 |some c=>if nameOk c.1=false then some 23 else if c.1∈(cs.take i).map (fun c=>c.1) then some 5 else if c.2.1<1∨3<c.2.1 then some 7 else none
def qlA:qg:=(([]:List UInt8),(0,(false,())))
def pkE (cs:List qg) (ks:List Int) (i:Nat):Option Int:=match ks[i]? with
 |none=>none
 |some k=>if k<0∨(cs.length:Int)≤k∨(qi cs k qlA).2.2.1=true∨(0<i∧k≤ks.getD (i - 1) 0) then some 9 else none
def quC (t:qs):Int:=if nameOk t.1=false then 23 else if t.2.1.length=0 then 3 else if 6<t.2.1.length then 2 else match qac (qx3 t.2.1) t.2.1.length with
 |some e=>e
 |none=>match qac (pkE t.2.1 t.2.2.1) t.2.2.1.length with
  |some e=>e
  |none=>if t.2.2.1.length=0 then 9 else 0
theorem qxT {cs:List qg} {i:Nat} (hi:i<cs.length):ltI (((qke (qo0 (cs[i]).1) cs).getD 0:Nat):Int) (i:Int)=open Classical in decide ((cs[i]).1∈(cs.take i).map (fun c=>c.1)):=by
 rw [qbl]
 apply decide_eq_decide.2
 cases h:qke (qo0 (cs[i]).1) cs with
 |none=>
  have:=qk2 h cs[i] (List.getElem_mem hi)
  simp [qo0] at this
 |some j=>
  obtain ⟨hj,h1,h2⟩:=qhZ h
  simp only [Option.getD_some]
  constructor
  ·intro hlt
   refine List.mem_map.2 ⟨cs[j],?_,by simpa [qo0] using h1⟩
   exact List.mem_take_iff_getElem.2 ⟨j,by omega,rfl⟩
  ·intro hm
   obtain ⟨c,hc,he⟩:=List.mem_map.1 hm
   obtain ⟨k,hk,rfl⟩:=List.mem_take_iff_getElem.1 hc
   have hki:k<i:=by omega
   by_cases hjk:k<j
   ·have:=h2 k hjk
    simp [qo0,he] at this
   ·omega
theorem qvN {α:Type} (xs:List α):eqI (qn xs) 0=decide (xs.length=0):=by
 rw [qbC,qj]; exact decide_eq_decide.2 (by omega)
theorem qmG {α:Type} (xs:List α) (n:Nat):ltI (n:Int) (qn xs)=decide (n<xs.length):=by
 rw [qbd,qj]; exact decide_eq_decide.2 (by omega)
theorem qsK (N:Nat) (t:qs) (h:qoF N t):qb1 N (t,())=some ((quC t,()),()):=by
 have hn:=h.n
 have hc:=h.c
 have hk:=h.k
 simp only [qb1,qG]
 rw [qmP N t.1 (by have:=h.nm; omega) h.nm]
 simp only [qf,qh,cond_true,qvN,show ltI 6 (qn t.2.1)=decide (6<t.2.1.length) from qmG _ 6]
 unfold quC
 cases h1:nameOk t.1 with
 |false=>rfl
 |true=>
  simp only [Bool.not_true,cond_false,if_false,Bool.true_eq_false]
  by_cases h2:t.2.1.length=0
  ·simp [h2]
  by_cases h3:6<t.2.1.length
  ·simp [h2,h3]
  simp only [h2,h3,decide_false,cond_false,if_false]
  refine (qaj (S:=Int×Unit) (fun i=>((i:Int),())) t.2.1.length (qx3 t.2.1) (fun e=>some ((e,()),())) (match qac (pkE t.2.1 t.2.2.1) t.2.2.1.length with
   |some e=>some ((e,()),())
   |none=>some ((if t.2.2.1.length=0 then 9 else 0,()),())) rfl (fun i hi _ ih=> ?_) (fun _ ih=> ?_) hc).trans ?_
  ·simp only
   have hm:(t.2.1[i]).1.length<N:=h.cn _ (List.getElem_mem hi)
   rw [qC (qaW hi),qC (qK hi),qF _ hi,qmP N _ (by omega) hm,qqs N t _ hc hn,qQ (by omega)]
   simp only [qf,qh,cond_true,qxT hi,qx3,List.getElem?_eq_getElem hi]
   cases nameOk (t.2.1[i]).1 with
   |false=>rfl
   |true=>
    simp only [Bool.not_true,cond_false,if_false,Bool.true_eq_false]
    by_cases h4:(t.2.1[i]).1∈(t.2.1.take i).map (fun c=>c.1)
    ·simp only [h4,decide_true,cond_true,if_true]
    ·simp only [h4,decide_false,cond_false,if_false]
     rw [qbl,qbl,←Bool.decide_or,qaJ]
     split <;> rfl
  ·simp only
   rw [qD (qax (Nat.lt_irrefl _))]
   refine (qaj (S:=Int×Unit) (fun i=>((i:Int),())) t.2.2.1.length (pkE t.2.1 t.2.2.1) (fun e=>some ((e,()),())) (some ((if t.2.2.1.length=0 then 9 else 0,()),())) rfl (fun i hi _ ih=> ?_) (fun _ ih=> ?_) hk).trans ?_
   ·simp only
    rw [qC (qaW hi),qC (qK hi),qF _ hi,qQ (by omega)]
    simp only [pkE,List.getElem?_eq_getElem hi]
    have e1:ltI (t.2.2.1[i]) 0=decide (t.2.2.1[i]<0):=qbl _ _
    have e2:leI (qn t.2.1) (t.2.2.1[i])=decide ((t.2.1.length:Int)≤t.2.2.1[i]):=by rw [qfZ,qj]
    have e3:inB (t.2.2.1[i]) (qn t.2.1)=(decide (0≤t.2.2.1[i])&&decide (t.2.2.1[i]<(t.2.1.length:Int))):=by rw [qdr,qj]
    have e4:ltI 0 (i:Int)=decide (0<i):=by rw [qbl]; exact decide_eq_decide.2 (by omega)
    rw [e1,e2,e3,e4]
    change (bif _ then (bif ((_||(qi t.2.1 (t.2.2.1[i]) qlA).2.2.1)||_) then _ else _) else _)=_
    by_cases h4:t.2.2.1[i]<0
    ·simp [h4]
    by_cases h5:(t.2.1.length:Int)≤t.2.2.1[i]
    ·simp [h4,h5]
    have h6:0≤t.2.2.1[i]:=by omega
    have h7:t.2.2.1[i]<(t.2.1.length:Int):=by omega
    by_cases h8:0<i
    ·have e5:inB (qT .i64 (i:Int) 1) (qn t.2.2.1)=true:=by rw [qam (by omega) (by omega),qcZ,qj]; simp; omega
     have e6:qi t.2.2.1 (qT .i64 (i:Int) 1) 0=t.2.2.1.getD (i - 1) 0:=by
      rw [qam (by omega) (by omega),qdf,show ((i:Int) - 1).toNat=i - 1 by omega]
     rw [e5,e6,qfZ]
     generalize (qi t.2.1 (t.2.2.1[i]) qlA).2.2.1=bb
     generalize t.2.2.1.getD (i - 1) 0=pv
     cases bb <;> by_cases h9:t.2.2.1[i]≤pv <;> simp [h4,h5,h6,h7,h8,h9]
    ·generalize (qi t.2.1 (t.2.2.1[i]) qlA).2.2.1=bb
     cases bb <;> simp [h4,h5,h6,h7,h8]
   ·simp only
    rw [qD (qax (Nat.lt_irrefl _)),qaJ]
    split <;> rfl
   ·cases qac (pkE t.2.1 t.2.2.1) t.2.2.1.length <;> rfl
  ·cases qac (qx3 t.2.1) t.2.1.length with
   |some e=>rfl
   |none=>cases qac (pkE t.2.1 t.2.2.1) t.2.2.1.length <;> rfl
theorem qsz (N:Nat) (t:qs) (h:qoF N t):qbE N (t,())=some ((quC t,()),()):=by
 have hn:=h.n
 have hc:=h.c
 have hk:=h.k
 have hm0:=h.m
 simp only [qbE,qG]
 rw [qpc N t.1 hm0]
 simp only [qf,qh,cond_true,qvN,show ltI 6 (qn t.2.1)=decide (6<t.2.1.length) from qmG _ 6]
 unfold quC
 cases h1:nameOk t.1 with
 |false=>rfl
 |true=>
  simp only [Bool.not_true,cond_false,if_false,Bool.true_eq_false]
  by_cases h2:t.2.1.length=0
  ·simp [h2]
  by_cases h3:6<t.2.1.length
  ·simp [h2,h3]
  simp only [h2,h3,decide_false,cond_false,if_false]
  refine (qaj (S:=(List ((List UInt8)×Int))×(Int×Unit)) (fun i=>(qrT ((t.2.1.take i).map (fun c=>c.1)),((i:Int),()))) t.2.1.length (qx3 t.2.1) (fun e=>some ((e,()),())) (match qac (pkE t.2.1 t.2.2.1) t.2.2.1.length with
   |some e=>some ((e,()),())
   |none=>some ((if t.2.2.1.length=0 then 9 else 0,()),())) rfl (fun i hi _ ih=> ?_) (fun _ ih=> ?_) hc).trans ?_
  ·simp only
   have hm:(t.2.1[i]).1.length<N:=h.cn _ (List.getElem_mem hi)
   have hlen:((t.2.1.take i).map (fun c=>c.1)).length<4611686018427387904:=by
    rw [List.length_map,List.length_take]; omega
   rw [qC (qaW hi),qC (qK hi),qF _ hi,qpc N _ hm0,qpn _ hlen,qQ (by omega),←qn4]
   have e0:(t.2.1.take i).map (fun c=>c.1)++[(t.2.1[i]).1]=(t.2.1.take (i+1)).map (fun c=>c.1):=by rw [qba hi,List.map_append]; rfl
   simp only [qf,qh,cond_true,qx3,List.getElem?_eq_getElem hi,e0]
   cases nameOk (t.2.1[i]).1 with
   |false=>rfl
   |true=>
    simp only [Bool.not_true,cond_false,if_false,Bool.true_eq_false]
    by_cases h4:(t.2.1[i]).1∈(t.2.1.take i).map (fun c=>c.1)
    ·simp only [h4,decide_true,cond_true,if_true]
    ·simp only [h4,decide_false,cond_false,if_false]
     rw [qbl,qbl,←Bool.decide_or,qaJ]
     split <;> rfl
  ·simp only
   rw [qD (qax (Nat.lt_irrefl _))]
   have hprev:∀i,i≤t.2.2.1.length→qac (pkE t.2.1 t.2.2.1) i=none→0<i→0≤t.2.2.1.getD (i - 1) 0:=fun i hi hf h0=>by
    have hlt:i - 1<t.2.2.1.length:=by omega
    have:=qaP hf (i - 1) (by omega)
    simp only [pkE,List.getElem?_eq_getElem hlt] at this
    split at this
    ·cases this
    ·rename_i hc
     simp only [not_or] at hc
     rw [List.getD_eq_getElem?_getD,List.getElem?_eq_getElem hlt]
     simp only [Option.getD_some]
     omega
   refine (qaj (S:=qaq) (fun i=>(if i=0 then -1 else t.2.2.1.getD (i - 1) 0,((i:Int),()))) t.2.2.1.length (pkE t.2.1 t.2.2.1) (fun e=>some ((e,()),())) (some ((if t.2.2.1.length=0 then 9 else 0,()),())) rfl (fun i hi hf ih=> ?_) (fun hf ih=> ?_) hk).trans ?_
   ·simp only
    rw [qC (qaW hi),qC (qK hi),qF _ hi,qQ (by omega)]
    simp only [pkE,List.getElem?_eq_getElem hi]
    have e2:leI (qn t.2.1) (t.2.2.1[i])=decide ((t.2.1.length:Int)≤t.2.2.1[i]):=by rw [qfZ,qj]
    have e3:inB (t.2.2.1[i]) (qn t.2.1)=(decide (0≤t.2.2.1[i])&&decide (t.2.2.1[i]<(t.2.1.length:Int))):=by rw [qdr,qj]
    have e5:t.2.2.1.getD (i+1 - 1) 0=t.2.2.1[i]:=by
     rw [List.getD_eq_getElem?_getD,Nat.add_sub_cancel,List.getElem?_eq_getElem hi]; rfl
    rw [e2,e3,qfZ]
    have hp:=hprev i (Nat.le_of_lt hi) hf
    simp only [show ¬(i+1=0) by omega,if_false,e5]
    change (bif _ then (bif (_||(qi t.2.1 (t.2.2.1[i]) qlA).2.2.1) then _ else _) else _)=_
    generalize (qi t.2.1 (t.2.2.1[i]) qlA).2.2.1=bb
    by_cases h8:i=0
    ·subst h8
     by_cases h4:t.2.2.1[0]<0
     ·have h6:t.2.2.1[0]≤ -1:=by omega
      simp [h4,h6]
     ·have h6:¬t.2.2.1[0]≤ -1:=by omega
      have h7:(0:Int)≤t.2.2.1[0]:=by omega
      by_cases h5:(t.2.1.length:Int)≤t.2.2.1[0]
      ·simp [h4,h5]
      ·have h9:t.2.2.1[0]<(t.2.1.length:Int):=by omega
       cases bb <;> simp [h4,h5,h6,h7,h9]
    ·have h0:0<i:=by omega
     have hp:=hp h0
     generalize t.2.2.1.getD (i - 1) 0=pv at *
     by_cases h4:t.2.2.1[i]≤pv
     ·simp [h4,h8,h0]
     ·have h6:¬t.2.2.1[i]<0:=by omega
      have h7:0≤t.2.2.1[i]:=by omega
      by_cases h5:(t.2.1.length:Int)≤t.2.2.1[i]
      ·simp [h4,h5,h8]
      ·have h9:t.2.2.1[i]<(t.2.1.length:Int):=by omega
       cases bb <;> simp [h4,h5,h6,h7,h8,h9]
   ·simp only
    rw [qD (qax (Nat.lt_irrefl _)),qbl,qaJ]
    by_cases h0:t.2.2.1.length=0
    ·simp [h0]
    ·have:=hprev _ (Nat.le_refl _) hf (by omega)
     rw [if_neg h0,if_neg h0,if_neg (by omega)]
   ·cases qac (pkE t.2.1 t.2.2.1) t.2.2.1.length <;> rfl
  ·cases qac (qx3 t.2.1) t.2.1.length with
   |some e=>rfl
   |none=>cases qac (pkE t.2.1 t.2.2.1) t.2.2.1.length <;> rfl
end
end Go.Proofs.YtfcdfdnlgfebmaaGreatDoor
namespace Go.Proofs.YtfcdfdnlgfebmaaGreatDoor
open Go.Vi
noncomputable section
theorem qpN {α:Type} (q:α→Bool) (xs:List α):(qke q xs).isSome=xs.any q:=by
 cases h:qke q xs with
 |none=>
  have:=qk2 h
  rw [Option.isSome_none,eq_comm,Bool.eq_false_iff]
  simp only [ne_eq,List.any_eq_true,not_exists,not_and]
  intro x hx
  rw [this x hx]
  simp
 |some i=>
  obtain ⟨hi,h1,_⟩:=qhZ h
  rw [Option.isSome_some,eq_comm,List.any_eq_true]
  exact ⟨_,List.getElem_mem hi,h1⟩
def qrx (s:qe):Prop:=∀t∈s.1,∀k∈t.2.2.1,0≤k∧k<(t.2.1.length:Int)
theorem qdb {s:qe} {n:List UInt8} {t:qs} (h:qgF s n=some t):t∈s.1:=by
 unfold qgF at h
 cases hi:qke (qdh n) s.1 with
 |none=>rw [hi] at h; cases h
 |some i=>
  rw [hi] at h
  exact List.mem_of_getElem? h
theorem qfF (s:qe) (n:List UInt8):(qke (qdh n) s.1=none∧qgF s n=none)∨∃i t,qke (qdh n) s.1=some i∧qgF s n=some t∧i<s.1.length∧∀d,qi s.1 (i:Int) d=t:=by
 unfold qgF
 cases h:qke (qdh n) s.1 with
 |none=>exact .inl ⟨rfl,rfl⟩
 |some i=>
  obtain ⟨hi,_⟩:=qhZ h
  exact .inr ⟨i,s.1[i],rfl,by simp [hi],hi,fun d=>qF d hi⟩
def fkE (t r:qs) (cs:List Int) (j:Nat):Option Int:=match cs[j]? with
 |none=>none
 |some c=>if c<0∨(t.2.1.length:Int)≤c then some 3 else if (qi t.2.1 c qlA).2.1≠(qi r.2.1 (r.2.2.1.getD j 0) qlA).2.1 then some 7 else none
def vFk (s:qe) (f:qI):Int:=match qgF s f.1,qgF s f.2.2.1 with
 |some t,some r=>if f.2.1.length≠r.2.2.1.length then 3 else match qac (fkE t r f.2.1) f.2.1.length with
  |some e=>e
  |none=>0
 |_,_=>4
theorem qmT {α β:Type} (xs:List α) (ys:List β):neI (qn xs) (qn ys)=decide (xs.length≠ys.length):=by
 rw [qaG,qj,qj,←decide_not]; exact decide_eq_decide.2 (by omega)
theorem qwT (N:Nat) (s:qe) (f:qI) (hB:N≤1099511627776) (ht:s.1.length<N) (hf:f.2.1.length<N) (hv:qrx s):qa6 N (s,(f,()))=some ((vFk s f,()),()):=by
 simp only [qa6,qG]
 rw [qfv N s f.1 ht hB,qfv N s f.2.2.1 ht hB]
 simp only [qf,qh,cond_true,vFk]
 rcases qfF s f.1 with ⟨h1,h2⟩|⟨i,t,h1,h2,h3,h4⟩
 ·rw [h1,h2]; rfl
 rcases qfF s f.2.2.1 with ⟨g1,g2⟩|⟨k,r,g1,g2,g3,g4⟩
 ·rw [g1,g2,h1,h2]; rfl
 rw [h1,h2,g1,g2]
 simp only [Option.isSome_some,Bool.not_true,Bool.or_self,cond_false,Option.getD_some,qK h3,qK g3,Bool.and_self,cond_true,h4,g4,qmT,qaJ]
 by_cases hl:f.2.1.length≠r.2.2.1.length
 ·rw [if_pos hl,if_pos hl]
 rw [if_neg hl,if_neg hl]
 have hl:f.2.1.length=r.2.2.1.length:=by omega
 have hr:=hv r (qdb g2)
 refine (qaj (S:=Int×Unit) (fun i=>((i:Int),())) f.2.1.length (fkE t r f.2.1) (fun e=>some ((e,()),())) (some ((0,()),())) rfl (fun j hj _ ih=> ?_) (fun _ ih=> ?_) hf).trans ?_
 ·simp only
  have hjr:j<r.2.2.1.length:=by omega
  have e0:r.2.2.1.getD j 0=r.2.2.1[j]:=by rw [List.getD_eq_getElem?_getD,List.getElem?_eq_getElem hjr]; rfl
  rw [qC (qaW hj),qC (qK hj),qF _ hj,qQ (by omega),qK hjr,qF _ hjr]
  simp only [fkE,List.getElem?_eq_getElem hj,e0]
  obtain ⟨q1,q2⟩:=hr _ (List.getElem_mem hjr)
  have e1:ltI (f.2.1[j]) 0=decide (f.2.1[j]<0):=qbl _ _
  have e2:leI (qn t.2.1) (f.2.1[j])=decide ((t.2.1.length:Int)≤f.2.1[j]):=by rw [qfZ,qj]
  have e3:inB (f.2.1[j]) (qn t.2.1)=(decide (0≤f.2.1[j])&&decide (f.2.1[j]<(t.2.1.length:Int))):=by rw [qdr,qj]
  have e4:inB (r.2.2.1[j]) (qn r.2.1)=true:=by rw [qcZ,qj]; simp [q1,q2]
  rw [e1,e2,e3,e4]
  change (bif _ then _ else (bif _ then (bif neI (qi t.2.1 (f.2.1[j]) qlA).2.1 (qi r.2.1 (r.2.2.1[j]) qlA).2.1 then _ else _) else _))=_
  by_cases h5:f.2.1[j]<0
  ·simp [h5]
  by_cases h6:(t.2.1.length:Int)≤f.2.1[j]
  ·simp [h6]
  have h7:0≤f.2.1[j]:=by omega
  have h8:f.2.1[j]<(t.2.1.length:Int):=by omega
  simp only [h5,h6,h7,h8,decide_false,decide_true,Bool.or_self,Bool.and_self,cond_false,cond_true,or_self,if_false,qaG,←decide_not,qaJ]
  split <;> rename_i hq <;> simp [hq]
 ·simp only
  rw [qD (qax (Nat.lt_irrefl _))]
 ·cases qac (fkE t r f.2.1) f.2.1.length <;> rfl
theorem qxF (N:Nat) (s:qe) (f:qI) (hB:N≤1099511627776) (ht:s.1.length<N) (hf:f.2.1.length<N) (hv:qrx s):qaV N (s,(f,()))=some ((vFk s f,()),()):=by
 simp only [qaV,qG]
 rw [qgl N s f.1 ht hB,qgl N s f.2.2.1 ht hB]
 simp only [qf,qh,Bool.and_self,cond_true,vFk]
 cases h2:qgF s f.1 with
 |none=>rw [qjK]; rfl
 |some t=>
 cases g2:qgF s f.2.2.1 with
 |none=>rw [qjK,qf]; rfl
 |some r=>
 simp only [qf,qh,Bool.not_true,Bool.or_self,cond_false,cond_true,qmT,qaJ]
 by_cases hl:f.2.1.length≠r.2.2.1.length
 ·rw [if_pos hl,if_pos hl]
 rw [if_neg hl,if_neg hl]
 have hl:f.2.1.length=r.2.2.1.length:=by omega
 have hr:=hv r (qdb g2)
 refine (qaj (S:=Int×Unit) (fun i=>((i:Int),())) f.2.1.length (fkE t r f.2.1) (fun e=>some ((e,()),())) (some ((0,()),())) rfl (fun j hj _ ih=> ?_) (fun _ ih=> ?_) hf).trans ?_
 ·simp only
  have hjr:j<r.2.2.1.length:=by omega
  have e0:r.2.2.1.getD j 0=r.2.2.1[j]:=by rw [List.getD_eq_getElem?_getD,List.getElem?_eq_getElem hjr]; rfl
  rw [qC (qaW hj),qC (qK hj),qF _ hj,qQ (by omega),qK hjr,qF _ hjr]
  simp only [fkE,List.getElem?_eq_getElem hj,e0]
  obtain ⟨q1,q2⟩:=hr _ (List.getElem_mem hjr)
  have e1:ltI (f.2.1[j]) 0=decide (f.2.1[j]<0):=qbl _ _
  have e2:leI (qn t.2.1) (f.2.1[j])=decide ((t.2.1.length:Int)≤f.2.1[j]):=by rw [qfZ,qj]
  have e3:inB (f.2.1[j]) (qn t.2.1)=(decide (0≤f.2.1[j])&&decide (f.2.1[j]<(t.2.1.length:Int))):=by rw [qdr,qj]
  have e4:inB (r.2.2.1[j]) (qn r.2.1)=true:=by rw [qcZ,qj]; simp [q1,q2]
  rw [e1,e2,e3,e4]
  change (bif _ then (bif _ then _ else (bif _ then (bif neI (qi t.2.1 (f.2.1[j]) qlA).2.1 (qi r.2.1 (r.2.2.1[j]) qlA).2.1 then _ else _) else _)) else _)=_
  by_cases h5:f.2.1[j]<0
  ·simp [h5]
  by_cases h6:(t.2.1.length:Int)≤f.2.1[j]
  ·simp [h6]
  have h7:0≤f.2.1[j]:=by omega
  have h8:f.2.1[j]<(t.2.1.length:Int):=by omega
  simp only [h5,h6,h7,h8,decide_false,decide_true,Bool.or_self,Bool.and_self,Bool.or_true,cond_false,cond_true,or_self,if_false,qaG,←decide_not,qaJ]
  split <;> rename_i hq <;> simp [hq]
 ·simp only
  rw [qD (qax (Nat.lt_irrefl _))]
 ·cases qac (fkE t r f.2.1) f.2.1.length <;> rfl
def qr1 (v:qc):Int:=
 if v.1<0∨3<v.1 then 7 else if (v.1≠3∧v.2.2.1≠[])∨((v.1=0∨v.1=3)∧v.2.1≠0) then 3
 else if (v.1=2∧(v.2.1<0∨1<v.2.1))∨1000000000000<v.2.1∨v.2.1< -1000000000000 then 1 else if 24<v.2.2.1.length then 2 else 0
theorem len24 (s:List UInt8):ltI 24 (qn s)=decide (24<s.length):=qmG s 24
theorem qn2 (N:Nat) (v:qc):qaf N (v,())=some ((qr1 v,()),()):=by
 obtain ⟨k,n,s,⟨⟩⟩:=v
 simp only [qaf,qG,qr1,qbl,qaG,qbC,qch,qj]
 simp only [qw7,Bool.or_eq_true,Bool.and_eq_true,decide_eq_true_eq,Bool.not_eq_true',decide_eq_false_iff_not]
 grind
theorem qnO (N:Nat) (v:qc):qby N (v,())=some ((qr1 v,()),()):=by
 obtain ⟨k,n,s,⟨⟩⟩:=v
 simp only [qby,qG,qr1,qbl,qaG,qbC,qch,qj]
 simp only [qw7,Bool.or_eq_true,Bool.and_eq_true,decide_eq_true_eq,Bool.not_eq_true',decide_eq_false_iff_not]
 by_cases k0:k=0
 ·subst k0; grind
 by_cases k1:k=1
 ·subst k1; grind
 by_cases k2:k=2
 ·subst k2; grind
 by_cases k3:k=3
 ·subst k3; grind
 grind
def qtY (o:List UInt8):Bool:=decide (o=[61])||(decide (o=[60])||decide (o=[60,61]))
def qsC (v:qc):Bool:=decide (v.1=0)&&(decide (v.2.1=0)&&decide (v.2.2.1=[]))
def qwR (s:qe) (c:qX):Int:=match qgF s c.1 with
 |none=>4
 |some t=>if c.2.1<0∨(t.2.1.length:Int)≤c.2.1∨qtY c.2.2.1=false∨c.2.2.2.1< -1∨(t.2.1.length:Int)≤c.2.2.2.1∨(0≤c.2.2.2.1∧qsC c.2.2.2.2.1=false) then 3
  else if 0≤c.2.2.2.1 then (if (qi t.2.1 c.2.1 qlA).2.1≠(qi t.2.1 c.2.2.2.1 qlA).2.1 then 7 else 0)
  else if c.2.2.2.2.1.1≠(qi t.2.1 c.2.1 qlA).2.1 then 7 else qr1 c.2.2.2.2.1
theorem qrf (N:Nat) (o:List UInt8):∃b,qb9 N ((0,(0,(([]:List UInt8),()))),(o,((0,(0,(([]:List UInt8),()))),())))=some ((b,(if qtY o=true then 0 else 3,())),()):=by
 simp only [qb9,qG,qch,qbC,qtY]
 by_cases h1:o=[61]
 ·exact ⟨true,by simp [h1]⟩
 by_cases h2:o=[60]
 ·exact ⟨true,by simp [h2]⟩
 by_cases h3:o=[60,61]
 ·exact ⟨true,by simp [h3]⟩
 ·exact ⟨false,by simp [h1,h2,h3]⟩
theorem quE (N:Nat) (s:qe) (c:qX) (hB:N≤1099511627776) (ht:s.1.length<N):qa9 N (s,(c,()))=some ((qwR s c,()),()):=by
 obtain ⟨b,hb⟩:=qrf N c.2.2.1
 simp only [qa9,qG]
 rw [qfv N s c.1 ht hB,hb,qnO]
 simp only [qf,qh,cond_true,qwR]
 rcases qfF s c.1 with ⟨h1,h2⟩|⟨i,t,h1,h2,h3,h4⟩
 ·rw [h1,h2]; rfl
 rw [h1,h2]
 simp only [Option.isSome_some,Bool.not_true,cond_false,Option.getD_some,qK h3,cond_true,h4]
 obtain ⟨c1,l,o,r,v,⟨⟩⟩:=c
 simp only at *
 have e1:ltI l 0=decide (l<0):=qbl _ _
 have e2:leI (qn t.2.1) l=decide ((t.2.1.length:Int)≤l):=by rw [qfZ,qj]
 have e3:neI (if qtY o=true then 0 else 3) 0= !qtY o:=by rw [qaG]; cases qtY o <;> simp
 have e4:ltI r (-1)=decide (r< -1):=qbl _ _
 have e5:leI (qn t.2.1) r=decide ((t.2.1.length:Int)≤r):=by rw [qfZ,qj]
 have e6:leI 0 r=decide (0≤r):=qfZ _ _
 have e7:(eqI v.1 0&&(eqI v.2.1 0&&eqS v.2.2.1 []))=qsC v:=by simp only [qbC,qch,qsC]
 have e8:inB l (qn t.2.1)=(decide (0≤l)&&decide (l<(t.2.1.length:Int))):=by rw [qdr,qj]
 have e9:inB r (qn t.2.1)=(decide (0≤r)&&decide (r<(t.2.1.length:Int))):=by rw [qdr,qj]
 rw [e1,e2,e3,e4,e5,e6,e7,e8,e9]
 change (bif _ then _ else (bif _ then (bif _ then (bif neI (qi t.2.1 l qlA).2.1 (qi t.2.1 r qlA).2.1 then _ else _) else _) else (bif _ then (bif neI v.1 (qi t.2.1 l qlA).2.1 then _ else _) else _)))=_
 rw [qaG,qaG]
 generalize (qi t.2.1 l qlA).2.1=kl
 generalize (qi t.2.1 r qlA).2.1=kr
 simp only [qw7,Bool.or_eq_true,Bool.and_eq_true,decide_eq_true_eq,Bool.not_eq_true',decide_eq_false_iff_not]
 generalize qr1 v=vv
 generalize qsC v=vz
 generalize qtY o=oo
 cases vz <;> cases oo <;> grind
theorem qu1 (N:Nat) (s:qe) (c:qX) (hB:N≤1099511627776) (ht:s.1.length<N):qaU N (s,(c,()))=some ((qwR s c,()),()):=by
 have hop:qcI N (c.2.2.1,())=some ((qtY c.2.2.1,()),()):=by
  simp only [qcI,qch,qtY,Bool.or_assoc]
 simp only [qaU,qG]
 rw [qgl N s c.1 ht hB,hop,qn2]
 simp only [qf,qh,cond_true,qwR]
 cases h2:qgF s c.1 with
 |none=>rw [qjK]; rfl
 |some t=>
 simp only [qf,qh,Bool.not_true,cond_false,cond_true,Bool.or_true]
 obtain ⟨c1,l,o,r,v,⟨⟩⟩:=c
 simp only at *
 have e1:ltI l 0=decide (l<0):=qbl _ _
 have e2:leI (qn t.2.1) l=decide ((t.2.1.length:Int)≤l):=by rw [qfZ,qj]
 have e4:ltI r (-1)=decide (r< -1):=qbl _ _
 have e5:leI (qn t.2.1) r=decide ((t.2.1.length:Int)≤r):=by rw [qfZ,qj]
 have e6:neI r (-1)= !decide (r= -1):=qaG _ _
 have e7:(eqI v.1 0&&(eqI v.2.1 0&&eqS v.2.2.1 []))=qsC v:=by simp only [qbC,qch,qsC]
 have e8:inB l (qn t.2.1)=(decide (0≤l)&&decide (l<(t.2.1.length:Int))):=by rw [qdr,qj]
 have e9:inB r (qn t.2.1)=(decide (0≤r)&&decide (r<(t.2.1.length:Int))):=by rw [qdr,qj]
 rw [e1,e2,e4,e5,e6,e7,e8,e9]
 change (bif _ then _ else (bif _ then (bif _ then (bif neI (bif _ then (qi t.2.1 r qlA).2.1 else v.1) (qi t.2.1 l qlA).2.1 then _ else _) else _) else _))=_
 rw [qaG]
 generalize (qi t.2.1 l qlA).2.1=kl
 generalize (qi t.2.1 r qlA).2.1=kr
 simp only [qw7,Bool.or_eq_true,Bool.and_eq_true,decide_eq_true_eq,Bool.not_eq_true',decide_eq_false_iff_not]
 generalize qr1 v=vv
 generalize qsC v=vz
 generalize qtY o=oo
 cases vz <;> cases oo <;> grind
def qtf (ts:List qs) (i:Nat):Option Int:=match ts[i]? with
 |none=>none
 |some t=>if quC t≠0 then some (quC t) else if 0<i∧qhq (qi ts ((i:Int) - 1) (([]:List UInt8),(([]:List qg),(([]:List Int),())))).1 t.1=false then some 6 else none
open Classical in
def fkL (s:qe) (i:Nat):Option Int:=match s.2.1[i]? with
 |none=>none
 |some f=>if vFk s f≠0 then some (vFk s f) else if f∈s.2.1.take i then some 5 else none
open Classical in
def qs5 (s:qe) (i:Nat):Option Int:=match s.2.2.1[i]? with
 |none=>none
 |some c=>if qwR s c≠0 then some (qwR s c) else if c∈s.2.2.1.take i then some 5 else none
def qmv (s:qe):Int:=if 6<s.1.length∨8<s.2.1.length∨8<s.2.2.1.length then 2 else match qac (qtf s.1) s.1.length with
 |some e=>e
 |none=>match qac (fkL s) s.2.1.length with
  |some e=>e
  |none=>match qac (qs5 s) s.2.2.1.length with
   |some e=>e
   |none=>0
theorem qhN {s:qe} (h:qac (qtf s.1) s.1.length=none):qrx s:=fun t ht k hk=>by
 obtain ⟨i,hi,rfl⟩:=List.getElem_of_mem ht
 have:=qaP h i hi
 simp only [qtf,List.getElem?_eq_getElem hi] at this
 split at this
 ·cases this
 rename_i hv
 have hv:quC s.1[i]=0:=by simpa using hv
 unfold quC at hv
 split at hv
 ·cases hv
 split at hv
 ·cases hv
 split at hv
 ·cases hv
 split at hv
 ·rename_i e he
  obtain ⟨j,h1,h2,_⟩:=qc7 he
  simp only [qx3,List.getElem?_eq_getElem h1] at h2
  subst hv
  split at h2
  ·cases h2
  split at h2
  ·cases h2
  split at h2 <;> cases h2
 split at hv
 ·rename_i e he
  obtain ⟨j,h1,h2,_⟩:=qc7 he
  simp only [pkE,List.getElem?_eq_getElem h1] at h2
  subst hv
  split at h2 <;> cases h2
 rename_i hpk
 obtain ⟨j,hj,rfl⟩:=List.getElem_of_mem hk
 have:=qaP hpk j hj
 simp only [pkE,List.getElem?_eq_getElem hj] at this
 split at this
 ·cases this
 ·rename_i hc
  simp only [not_or] at hc
  omega
structure qfC (N:Nat) (s:qe):Prop where
 sm:Small N s
 m:100<N
theorem qfC.tab {N:Nat} {s:qe} (h:qfC N s) {t:qs} (ht:t∈s.1):qoF N t:=
 ⟨h.sm.n,h.m,h.sm.tn t ht,h.sm.tc t ht,h.sm.tk t ht,h.sm.cn t ht⟩
theorem gt3 (s:qe):((ltI 6 (qn s.1)||ltI 8 (qn s.2.1))||ltI 8 (qn s.2.2.1))=decide (6<s.1.length∨8<s.2.1.length∨8<s.2.2.1.length):=by
 rw [show ltI 6 (qn s.1)=decide (6<s.1.length) from qmG _ 6,show ltI 8 (qn s.2.1)=decide (8<s.2.1.length) from qmG _ 8,show ltI 8 (qn s.2.2.1)=decide (8<s.2.2.1.length) from qmG _ 8,←Bool.decide_or,←Bool.decide_or]
 exact decide_eq_decide.2 or_assoc
theorem qwy (N:Nat) (xs:List qX) (c:qX) (hN:xs.length<N) (hb:xs.length≤1099511627776):qaT N (xs,(c,()))=some ((qmn (fun x=>decide (c=x)) xs,()),()):=by
 simp only [qaT]
 refine (qaj (S:=Int×Unit) (fun i=>((i:Int),())) xs.length (atE (fun x=>decide (c=x)) xs) (fun i=>some (((i:Int),()),())) (some ((-1,()),())) rfl (fun i hi _ ih=> ?_) (fun _ ih=> ?_) hN).trans ?_
 ·simp only
  rw [qC (qaW hi),qC (qK hi),qF _ hi,qQ (by omega)]
  simp only [atE,List.getElem?_eq_getElem hi]
  generalize xs[i]=x
  obtain ⟨a1,a2,a3,a4,⟨a5,a6,a7,⟨⟩⟩,⟨⟩⟩:=c
  obtain ⟨b1,b2,b3,b4,⟨b5,b6,b7,⟨⟩⟩,⟨⟩⟩:=x
  simp only [qch,qbC,Prod.mk.injEq,and_true,←Bool.decide_and,qaJ,decide_eq_true_eq]
  split <;> rename_i hq <;> simp [hq]
 ·simp only
  rw [qD (qax (Nat.lt_irrefl _))]
 ·rw [qmn,qke]
  cases qac (atE (fun x=>decide (c=x)) xs) xs.length <;> rfl
theorem qq0 (N:Nat) (xs:List qX) (c:qX) (hN:xs.length<N) (hb:xs.length≤1099511627776):qaI N (xs,(c,()))=some ((decide (c∈xs),()),()):=by
 simp only [qaI,qwy N xs c hN hb,qf,qh,cond_true,qqc,qpN]
 congr 3
 rw [Bool.eq_iff_iff]
 simp
theorem qrV (N:Nat) (xs:List qI) (f:qI) (hN:xs.length<N) (hB:N≤1099511627776) (hc:∀x∈xs,x.2.1.length<N):
  qau N (xs,((fun x6=>(qf7 (fun y7=>(y7.1.1,())) (qbA N (x6.1,(f,()))))),()))=some ((decide (f∈xs),()),()):=by
 simp only [qau]
 have h:=qfp (fun x6=>(qf7 (fun y7:((Bool×Unit)×Unit)=>(y7.1.1,())) (qbA N (x6.1,(f,()))))) (fun x=>decide (x=f)) xs (fun a ha=>by simp only [qbA,qtF N a f (hc a ha) hB,qf,qh,cond_true,qck,Option.map_some]) (([]:List UInt8),(([]:List Int),(([]:List UInt8),()))) N hN (by omega)
 rw [show qa2 N (xs,((fun x6=>(qf7 (fun y7=>(y7.1.1,())) (qbA N (x6.1,(f,()))))),()))=some ((qmn (fun x=>decide (x=f)) xs,()),()) from h]
 simp only [qf,qh,cond_true,qqc,qpN]
 congr 3
 rw [Bool.eq_iff_iff]
 simp
theorem qrc (N:Nat) (s:qe) (h:qfC N s):qb6 N (s,())=some ((qmv s,()),()):=by
 have hn:=h.sm.n
 have ht:=h.sm.t
 have hf:=h.sm.f
 have hc:=h.sm.c
 simp only [qb6,qG,gt3,qaJ]
 unfold qmv
 by_cases h0:6<s.1.length∨8<s.2.1.length∨8<s.2.2.1.length
 ·rw [if_pos h0,if_pos h0]
 rw [if_neg h0,if_neg h0]
 refine (qaj (S:=Int×Unit) (fun i=>((i:Int),())) s.1.length (qtf s.1) (fun e=>some ((e,()),())) (some ((match qac (fkL s) s.2.1.length with
  |some e=>e
  |none=>match qac (qs5 s) s.2.2.1.length with
   |some e=>e
   |none=>0,()),())) rfl (fun i hi _ ih=> ?_) (fun hk ih=> ?_) ht).trans ?_
 ·simp only
  rw [qC (qaW hi),qC (qK hi),qF _ hi,qsK N _ (h.tab (List.getElem_mem hi)),qQ (by omega)]
  simp only [qf,qh,cond_true,qtf,List.getElem?_eq_getElem hi,qaG,←decide_not,qaJ]
  by_cases h1:quC s.1[i]=0
  ·have e4:ltI 0 (i:Int)=decide (0<i):=by rw [qbl]; exact decide_eq_decide.2 (by omega)
   rw [if_neg (by simp [h1]),if_neg (by simp [h1]),e4]
   by_cases h8:0<i
   ·have e5:qT .i64 (i:Int) 1=(i:Int) - 1:=qam (by omega) (by omega)
    have e6:inB ((i:Int) - 1) (qn s.1)=true:=by rw [qcZ,qj]; simp; omega
    rw [e5,e6,qsN]
    cases qhq (qi s.1 ((i:Int) - 1) (([]:List UInt8),(([]:List qg),(([]:List Int),())))).1 (s.1[i]).1 <;> simp [h8]
   ·simp [h8]
  ·rw [if_pos h1,if_pos h1]
 ·simp only
  have hv:=qhN hk
  rw [qD (qax (Nat.lt_irrefl _))]
  refine (qaj (S:=Int×Unit) (fun i=>((i:Int),())) s.2.1.length (fkL s) (fun e=>some ((e,()),())) (some ((match qac (qs5 s) s.2.2.1.length with
   |some e=>e
   |none=>0,()),())) rfl (fun i hi _ ih=> ?_) (fun _ ih=> ?_) hf).trans ?_
  ·simp only
   rw [qC (qaW hi),qC (qK hi),qF _ hi,qwT N s _ hn ht (h.sm.fc _ (List.getElem_mem hi)) hv,qQ (by omega),qnh,qrV N (s.2.1.take i) _ (by rw [List.length_take]; omega) hn (fun x hx=>h.sm.fc x (List.mem_of_mem_take hx))]
   have e5:inS 0 (i:Int) (qn s.2.1)=true:=by rw [qjj,qj]; simp; omega
   simp only [qf,qh,cond_true,fkL,List.getElem?_eq_getElem hi,qaG,←decide_not,qaJ,e5,Bool.and_self]
   by_cases h1:vFk s s.2.1[i]=0
   ·simp only [h1,ne_eq,not_true_eq_false,if_false]
    by_cases h2:s.2.1[i]∈s.2.1.take i
    ·rw [if_pos h2,if_pos h2]
    ·rw [if_neg h2,if_neg h2]
   ·rw [if_pos h1,if_pos h1]
  ·simp only
   rw [qD (qax (Nat.lt_irrefl _))]
   refine (qaj (S:=Int×Unit) (fun i=>((i:Int),())) s.2.2.1.length (qs5 s) (fun e=>some ((e,()),())) (some ((0,()),())) rfl (fun i hi _ ih=> ?_) (fun _ ih=> ?_) hc).trans ?_
   ·simp only
    rw [qC (qaW hi),qC (qK hi),qF _ hi,quE N s _ hn ht,qQ (by omega),qnh,qq0 N (s.2.2.1.take i) _ (by rw [List.length_take]; omega) (by rw [List.length_take]; omega)]
    have e5:inS 0 (i:Int) (qn s.2.2.1)=true:=by rw [qjj,qj]; simp; omega
    simp only [qf,qh,cond_true,qs5,List.getElem?_eq_getElem hi,qaG,←decide_not,qaJ,e5,Bool.and_self]
    by_cases h1:qwR s s.2.2.1[i]=0
    ·simp only [h1,ne_eq,not_true_eq_false,if_false]
     by_cases h2:s.2.2.1[i]∈s.2.2.1.take i
     ·rw [if_pos h2,if_pos h2]
     ·rw [if_neg h2,if_neg h2]
    ·rw [if_pos h1,if_pos h1]
   ·simp only
    rw [qD (qax (Nat.lt_irrefl _))]
   ·cases qac (qs5 s) s.2.2.1.length <;> rfl
  ·cases qac (fkL s) s.2.1.length <;> rfl
 ·cases qac (qtf s.1) s.1.length <;> rfl
theorem fk_ids (xs:List qI) (f:qI):fkC f∈xs.map fkC↔f∈xs:=by
 constructor
 ·intro h
  obtain ⟨x,hx,he⟩:=List.mem_map.1 h
  rw [qu9 he] at hx
  exact hx
 ·exact fun h=>List.mem_map_of_mem h
theorem qrM (N:Nat) (s:qe) (h:qfC N s) (hid:∀f∈s.2.1,(fkC f).length≤1099511627776):qaF N (s,())=some ((qmv s,()),()):=by
 have hn:=h.sm.n
 have ht:=h.sm.t
 have hf:=h.sm.f
 have hc:=h.sm.c
 simp only [qaF,qG,gt3,qaJ]
 unfold qmv
 by_cases h0:6<s.1.length∨8<s.2.1.length∨8<s.2.2.1.length
 ·rw [if_pos h0,if_pos h0]
 rw [if_neg h0,if_neg h0]
 refine (qaj (S:=Int×Unit) (fun i=>((i:Int),())) s.1.length (qtf s.1) (fun e=>some ((e,()),())) (some ((match qac (fkL s) s.2.1.length with
  |some e=>e
  |none=>match qac (qs5 s) s.2.2.1.length with
   |some e=>e
   |none=>0,()),())) rfl (fun i hi _ ih=> ?_) (fun hk ih=> ?_) ht).trans ?_
 ·simp only
  rw [qC (qaW hi),qC (qK hi),qF _ hi,qsz N _ (h.tab (List.getElem_mem hi)),qQ (by omega)]
  simp only [qf,qh,cond_true,qtf,List.getElem?_eq_getElem hi,qaG,←decide_not,qaJ]
  by_cases h1:quC s.1[i]=0
  ·have e4:ltI 0 (i:Int)=decide (0<i):=by rw [qbl]; exact decide_eq_decide.2 (by omega)
   rw [if_neg (by simp [h1]),if_neg (by simp [h1]),e4]
   by_cases h8:0<i
   ·have e5:qT .i64 (i:Int) 1=(i:Int) - 1:=qam (by omega) (by omega)
    have e6:inB ((i:Int) - 1) (qn s.1)=true:=by rw [qcZ,qj]; simp; omega
    rw [e5,e6]
    cases qhq (qi s.1 ((i:Int) - 1) (([]:List UInt8),(([]:List qg),(([]:List Int),())))).1 (s.1[i]).1 <;> simp [h8]
   ·simp [h8]
  ·rw [if_pos h1,if_pos h1]
 ·simp only
  have hv:=qhN hk
  rw [qD (qax (Nat.lt_irrefl _))]
  refine (qaj (S:=(List ((List UInt8)×Int))×(Int×Unit)) (fun i=>(qrT ((s.2.1.take i).map fkC),((i:Int),()))) s.2.1.length (fkL s) (fun e=>some ((e,()),())) (some ((match qac (qs5 s) s.2.2.1.length with
   |some e=>e
   |none=>0,()),())) rfl (fun i hi _ ih=> ?_) (fun _ ih=> ?_) hf).trans ?_
  ·simp only
   have hm:=List.getElem_mem hi
   have hlen:((s.2.1.take i).map fkC).length<4611686018427387904:=by rw [List.length_map,List.length_take]; omega
   have q:=h.sm.fc _ hm
   rw [qC (qaW hi),qC (qK hi),qF _ hi,qxF N s _ hn ht q hv,qQ (by omega),qoy N _ q (hid _ hm) (by omega)]
   simp only [qf,qh,cond_true]
   rw [qpn _ hlen,←qn4]
   have e0:(s.2.1.take i).map fkC++[fkC s.2.1[i]]=(s.2.1.take (i+1)).map fkC:=by rw [qba hi,List.map_append]; rfl
   simp only [fkL,List.getElem?_eq_getElem hi,qaG,←decide_not,qaJ,e0,fk_ids]
   by_cases h1:vFk s s.2.1[i]=0
   ·simp only [h1,ne_eq,not_true_eq_false,if_false]
    by_cases h2:s.2.1[i]∈s.2.1.take i
    ·rw [if_pos h2,if_pos h2]
    ·rw [if_neg h2,if_neg h2]
   ·rw [if_pos h1,if_pos h1]
  ·simp only
   rw [qD (qax (Nat.lt_irrefl _))]
   refine (qaj (S:=Int×Unit) (fun i=>((i:Int),())) s.2.2.1.length (qs5 s) (fun e=>some ((e,()),())) (some ((0,()),())) rfl (fun i hi _ ih=> ?_) (fun _ ih=> ?_) hc).trans ?_
   ·simp only
    rw [qC (qaW hi),qC (qK hi),qF _ hi,qu1 N s _ hn ht,qQ (by omega),qnh]
    have e5:inS 0 (i:Int) (qn s.2.2.1)=true:=by rw [qjj,qj]; simp; omega
    simp only [qf,qh,cond_true,qs5,List.getElem?_eq_getElem hi,qaG,←decide_not,qaJ,e5]
    by_cases h1:qwR s s.2.2.1[i]=0
    ·simp only [h1,ne_eq,not_true_eq_false,if_false]
     have hlt:(s.2.2.1.take i).length<N:=by rw [List.length_take]; omega
     refine (qaj (S:=Int×Unit) (fun j=>((j:Int),())) (s.2.2.1.take i).length (atE (fun x=>decide (x=s.2.2.1[i])) (s.2.2.1.take i)) (fun _=>some ((5,()),())) (ih (((i+1:Nat):Int),())) rfl (fun j hj _ ih2=> ?_) (fun _ ih2=> ?_) hlt).trans ?_
     ·simp only
      rw [qC (qaW hj),qC (qK hj),qF _ hj,qQ (by omega)]
      simp only [atE,List.getElem?_eq_getElem hj]
      generalize (s.2.2.1.take i)[j]=x
      generalize s.2.2.1[i]=c
      obtain ⟨a1,a2,a3,a4,⟨a5,a6,a7,⟨⟩⟩,⟨⟩⟩:=c
      obtain ⟨b1,b2,b3,b4,⟨b5,b6,b7,⟨⟩⟩,⟨⟩⟩:=x
      simp only [qch,qbC,Prod.mk.injEq,and_true,←Bool.decide_and,qaJ,decide_eq_true_eq]
      split <;> rename_i hq <;> simp [hq]
     ·simp only
      rw [qD (qax (Nat.lt_irrefl _))]
     ·have e6:=qpN (fun x=>decide (x=s.2.2.1[i])) (s.2.2.1.take i)
      unfold qke at e6
      by_cases h2:s.2.2.1[i]∈s.2.2.1.take i
      ·have:(s.2.2.1.take i).any (fun x=>decide (x=s.2.2.1[i]))=true:=by simp only [List.any_eq_true,decide_eq_true_eq]; exact ⟨_,h2,rfl⟩
       rw [this] at e6
       obtain ⟨k,hk⟩:=Option.isSome_iff_exists.1 e6
       rw [hk,if_pos h2]
      ·have:(s.2.2.1.take i).any (fun x=>decide (x=s.2.2.1[i]))=false:=by
        rw [List.any_eq_false]
        intro x hx he
        rw [decide_eq_true_eq] at he
        subst he
        exact h2 hx
       rw [this] at e6
       have hk:qac (atE (fun x=>decide (x=s.2.2.1[i])) (s.2.2.1.take i)) (s.2.2.1.take i).length=none:=by simpa using e6
       rw [hk,if_neg h2]
    ·rw [if_pos h1,if_pos h1]
   ·simp only
    rw [qD (qax (Nat.lt_irrefl _))]
   ·cases qac (qs5 s) s.2.2.1.length <;> rfl
  ·cases qac (fkL s) s.2.1.length <;> rfl
 ·cases qac (qtf s.1) s.1.length <;> rfl
end
end Go.Proofs.YtfcdfdnlgfebmaaGreatDoor
namespace Go.Proofs.YtfcdfdnlgfebmaaGreatDoor
open Go.Vi
noncomputable section
theorem qki (N:Nat) (x y:Int):qaO N (x,(y,()))=some ((ic x y,()),()):=by
 simp only [qaO,qG,qbd,condO,decide_eq_true_eq,ic]
 split
 ·rfl
 ·split <;> rfl
theorem qtR (N:Nat) (a b:List UInt8):qcU N (a,(b,()))=some ((Lib.compareBytes a b,()),()):=by
 simp only [qcU,qa5,qG,qf,qh,cond_true]
theorem qpk (N:Nat) (a b:qc):qcA N (a,(b,()))=some ((vc a b,()),()):=by
 simp only [qcA,qG,qki,qtR,qf,qh,cond_true,qaG,condO,Bool.not_eq_true',decide_eq_false_iff_not,vc]
 split
 ·rfl
 ·split <;> rfl
theorem qyz (N:Nat) (a b:qc):qbn N (a,(b,()))=some ((decide (vc a b<0),()),()):=by
 simp only [qbn,qG,qaG,qbd,qlr]
 have h1:=qbv a.1 b.1
 have h2:=qbv a.2.1 b.2.1
 by_cases e1:a.1=b.1
 ·have f1:ic a.1 b.1=0:=by omega
  by_cases e2:a.2.1=b.2.1
  ·have f2:ic a.2.1 b.2.1=0:=by omega
   have:vc a b=Lib.compareBytes a.2.2.1 b.2.2.1:=by simp [vc,f1,f2]
   simp [e1,e2,this]
  ·have f2:ic a.2.1 b.2.1≠0:=by omega
   have h3:vc a b=ic a.2.1 b.2.1:=by simp [vc,f1,f2]
   have h4:a.2.1<b.2.1↔vc a b<0:=by omega
   simp [e1,e2,h4]
 ·have f1:ic a.1 b.1≠0:=by omega
  have h3:vc a b=ic a.1 b.1:=by simp [vc,f1]
  have h4:a.1<b.1↔vc a b<0:=by omega
  simp [e1,h4]
theorem qhd (N:Nat) (xs ys:qaa) (hN:xs.length<N) (hB:N≤1099511627776):qM N (xs,(ys,()))=some ((qH xs ys,()),()):=by
 simp only [qM,qG,qki,qpk,qf,qh,cond_true,Bool.and_true]
 refine qcR (S:=Int×Unit) (R:=(Int×Unit)×Unit) (fun p=>xs.length - p.1.toNat) (fun p=>∃i:Nat,p.1=(i:Int)∧i≤xs.length∧i≤ys.length∧qH (xs.drop i) (ys.drop i)=qH xs ys) (fun _=>((qH xs ys,()),())) ?_ N _ ⟨0,rfl,Nat.zero_le _,Nat.zero_le _,rfl⟩ (by simp; omega)
 rintro ih ⟨_,_⟩ ⟨i,rfl,hx,hy,he⟩ hih
 simp only [Int.toNat_natCast] at hih⊢
 by_cases h:i<xs.length∧i<ys.length
 ·obtain ⟨h1,h2⟩:=h
  rw [qC (by rw [qbd,qno,qj,qj]; simp; omega),qK h1,qK h2,qF _ h1,qF _ h2]
  simp only [Bool.and_self,cond_true]
  rw [List.drop_eq_getElem_cons h1,List.drop_eq_getElem_cons h2,qH] at he
  by_cases hv:vc xs[i] ys[i]=0
  ·rw [if_neg (fun h=>h hv)] at he
   rw [qD (by rw [qaG,hv]; rfl),qQ (by omega)]
   exact hih _ ⟨i+1,rfl,h1,h2,he⟩ (by simp only [Int.toNat_natCast]; omega)
  ·rw [if_pos hv] at he
   rw [qC (by rw [qaG]; simp [hv]),he]
 ·rw [qD (by rw [qbd,qno,qj,qj]; simp; omega)]
  rw [qpD xs ys i h hx hy] at he
  rw [qj,qj,he]
theorem qeK (N:Nat) (xs ys:qaa) (hN:xs.length<N) (hB:N≤1099511627776):qJ N (xs,(ys,()))=some ((qH xs ys,()),()):=by
 simp only [qJ,qG,qyz,qf,qh,cond_true,Bool.and_true]
 refine qcR (S:=Int×Unit) (R:=(Int×Unit)×Unit) (fun p=>xs.length - p.1.toNat) (fun p=>∃i:Nat,p.1=(i:Int)∧i≤xs.length∧i≤ys.length∧qH (xs.drop i) (ys.drop i)=qH xs ys) (fun _=>((qH xs ys,()),())) ?_ N _ ⟨0,rfl,Nat.zero_le _,Nat.zero_le _,rfl⟩ (by simp; omega)
 rintro ih ⟨_,_⟩ ⟨i,rfl,hx,hy,he⟩ hih
 simp only [Int.toNat_natCast] at hih⊢
 by_cases h:i<xs.length∧i<ys.length
 ·obtain ⟨h1,h2⟩:=h
  rw [qaW h1,qaW h2,qK h1,qK h2,qF _ h1,qF _ h2]
  simp only [Bool.and_self,cond_true]
  rw [List.drop_eq_getElem_cons h1,List.drop_eq_getElem_cons h2,qH] at he
  have hs:=qvg xs[i] ys[i]
  rcases qta xs[i] ys[i] with hv|hv|hv
  ·rw [if_pos (by omega)] at he
   rw [qC (by rw [hv]; rfl),←he,hv]
  ·rw [if_neg (fun h=>h hv)] at he
   rw [qD (by rw [hv]; rfl),qD (by rw [hs,hv]; rfl),qQ (by omega)]
   exact hih _ ⟨i+1,rfl,h1,h2,he⟩ (by simp only [Int.toNat_natCast]; omega)
  ·rw [if_pos (by omega)] at he
   rw [qD (by rw [hv]; rfl),qC (by rw [hs,hv]; rfl),←he,hv]
 ·rw [qD (by
   rw [qbd,qbd,qj,qj]
   simp only [Bool.and_eq_false_iff,decide_eq_false_iff_not]
   omega)]
  rw [qpD xs ys i h hx hy] at he
  rw [qj,qj,←he]
  have:=qbv (xs.length:Int) (ys.length:Int)
  rcases this with ⟨h1,h2⟩|⟨h1,h2⟩|⟨h1,h2⟩
  ·rw [qC (by rw [qbd]; simp; omega),h2]
  ·rw [qD (by rw [qbd]; simp; omega),qD (by rw [qbd]; simp; omega),h2]
  ·rw [qD (by rw [qbd]; simp; omega),qC (by rw [qbd]; simp; omega),h2]
theorem qu7 (N:Nat) (pk:List Int) (row:qaa) (hN:pk.length<N) (hb:pk.length≤1099511627776):
  qab (S:=((List qc)×(Int×Unit))) (R:=(((List qc)×Unit)×Unit)) N (fun ih0=>(fun p1=>(bif (ltI p1.2.1 (qn pk)) then (bif (inB p1.2.1 (qn pk)) then (qR ((leI 0 (qi pk p1.2.1 0))&&(ltI (qi pk p1.2.1 0) (qn row))) (fun y2=>(bif (bif y2 then (inB (qi pk p1.2.1 0) (qn row)) else true) then (qR (bif y2 then (qi row (qi pk p1.2.1 0) (0,(0,(([]:List UInt8),())))) else (0,(0,(([]:List UInt8),())))) (fun y3=>(bif (qcQ (qn p1.1) (qn ([y3]:List qc)) 32) then (ih0 ((qfn p1.1 ([y3]:List qc)),((qS .i64 p1.2.1 1),()))) else none))) else none))) else none) else (some ((p1.1,()),()))))) (([]:List qc),(0,()))=some ((qad pk row,()),()):=by
 simp only [qG]
 refine qhY (S:=((List qc)×(Int×Unit))) (fun i=>(qad (pk.take i) row,((i:Int),()))) pk.length _ (by simp [qad]) (fun i hi ih=> ?_) (fun ih=> ?_) hN
 ·have e1:qad (pk.take (i+1)) row=qad (pk.take i) row++[qox row pk[i]]:=by unfold qad; rw [qba hi,List.map_append]; rfl
  have e2:(bif (leI 0 pk[i]&&ltI pk[i] (qn row)) then qi row pk[i] (0,(0,(([]:List UInt8),()))) else (0,(0,(([]:List UInt8),()))))=qox row pk[i]:=by
   unfold qox
   by_cases h:0≤pk[i]∧pk[i]<(row.length:Int)
   ·rw [dif_pos h,qC (by rw [qa3,qbd,qj]; simp; exact h)]
    obtain ⟨k,hk⟩:∃k:Nat,pk[i]=(k:Int):=⟨pk[i].toNat,by omega⟩
    have hk':k<row.length:=by omega
    simp only [hk,Int.toNat_natCast]
    exact qF _ hk'
   ·rw [dif_neg h,qD (by rw [qa3,qbd,qj]; simp; omega)]
  have e3:(bif (leI 0 pk[i]&&ltI pk[i] (qn row)) then inB pk[i] (qn row) else true)=true:=by
   cases hc:(leI 0 pk[i]&&ltI pk[i] (qn row)) with
   |false=>rfl
   |true=>
    rw [qa3,qbd,qj] at hc
    rw [cond_true,qdr,qj]
    simpa using hc
  simp only
  rw [qC (qaW hi),qK hi,cond_true,qF _ hi,e3,cond_true,e2,qC (qdZ (by rw [qeA,List.length_take]; simp; omega)),qQ (by omega),qbo,e1]
 ·simp only
  rw [qD (qax (Nat.lt_irrefl _)),List.take_length]
theorem qtw (N:Nat) (t:qs) (row:qaa) (hN:t.2.2.1.length<N) (hB:N≤1099511627776):qz N (t,(row,()))=some ((qad t.2.2.1 row,()),()):=qu7 N t.2.2.1 row hN (by omega)
theorem qjJ (N:Nat) (t:qs) (row:qaa) (hN:t.2.2.1.length<N) (hB:N≤1099511627776):qL N (t,(row,()))=some ((qad t.2.2.1 row,()),()):=by
 have h:qde N (row,(t.2.2.1,()))=some ((qad t.2.2.1 row,()),()):=qu7 N t.2.2.1 row hN (by omega)
 simp only [qL,h,qf,qh,cond_true]
theorem qvt (N:Nat) (t:qs) (rows:List qaa) (key:qaa) (hN:t.2.2.1.length<N) (hN2:rows.length<N) (hB:N≤1099511627776):
  qbM N (t,(rows,(key,())))=some ((((qci (fun r=>qH (qad t.2.2.1 r) key) rows).1:Int),((qci (fun r=>qH (qad t.2.2.1 r) key) rows).2,())),()):=by
 have hk:∀r,qz N (t,(r,()))=some ((qad t.2.2.1 r,()),()):=fun r=>qtw N t r hN hB
 have hc:∀r,qM N (qad t.2.2.1 r,(key,()))=some ((qH (qad t.2.2.1 r) key,()),()):=fun r=>qhd N _ _ (by rw [qeA]; exact hN) hB
 generalize hf:(fun r=>qH (qad t.2.2.1 r) key)=f
 have hfr:∀r,qH (qad t.2.2.1 r) key=f r:=fun r=>by rw [←hf]
 simp only [qbM,qG,hk,hc,hfr,qf,qh,cond_true,Bool.and_self]
 refine qcR (S:=Int×Unit) (R:=(Int×(Bool×Unit))×Unit) (fun p=>rows.length - p.1.toNat) (fun p=>∃i:Nat,p.1=(i:Int)∧i≤rows.length∧qci f rows=(i+(qci f (rows.drop i)).1,(qci f (rows.drop i)).2)) (fun _=>((((qci f rows).1:Int),((qci f rows).2,())),())) ?_ N _ ⟨0,rfl,Nat.zero_le _,by simp⟩ (by simp; omega)
 rintro ih ⟨_,_⟩ ⟨i,rfl,h2,h3⟩ hih
 simp only [Int.toNat_natCast] at hih⊢
 by_cases hi:i<rows.length
 ·rw [qC (qaW hi),qK hi,cond_true,qF _ hi]
  rw [List.drop_eq_getElem_cons hi,qci] at h3
  by_cases h:0≤f rows[i]
  ·rw [if_pos h] at h3
   rw [qC (by rw [qa3]; simp [h]),h3,qbC]
   simp
  ·rw [if_neg h] at h3
   rw [qD (by rw [qa3]; simp; omega),qQ (by omega)]
   exact hih _ ⟨i+1,rfl,hi,by rw [h3]; simp; omega⟩ (by simp only [Int.toNat_natCast]; omega)
 ·rw [qD (qax hi),qj]
  rw [List.drop_of_length_le (by omega)] at h3
  rw [h3]
  simp [qci]
  omega
theorem qrG (N:Nat) (rows:List qaa) (f:qaa→Int) (φ:(qaa×Unit)→Option (Bool×Unit)) (hφ:∀r,φ (r,())=some (decide (0≤f r),())) (hN2:rows.length<N) (hB:N≤1099511627776):
  qap N (rows,(φ,()))=some (((if (qci f rows).1<rows.length then ((qci f rows).1:Int) else -1),()),()):=by
 simp only [qap,qG,hφ,qf,qh,Bool.and_true]
 refine qcR (S:=Int×Unit) (R:=(Int×Unit)×Unit) (fun p=>rows.length - p.1.toNat) (fun p=>∃i:Nat,p.1=(i:Int)∧i≤rows.length∧qci f rows=(i+(qci f (rows.drop i)).1,(qci f (rows.drop i)).2)) (fun _=>(((if (qci f rows).1<rows.length then ((qci f rows).1:Int) else -1),()),())) ?_ N _ ⟨0,rfl,Nat.zero_le _,by simp⟩ (by simp; omega)
 rintro ih ⟨_,_⟩ ⟨i,rfl,h2,h3⟩ hih
 simp only [Int.toNat_natCast] at hih⊢
 by_cases hi:i<rows.length
 ·rw [qC (qaW hi),qK hi,cond_true,qF _ hi]
  rw [List.drop_eq_getElem_cons hi,qci] at h3
  by_cases h:0≤f rows[i]
  ·rw [if_pos h] at h3
   rw [qC (by simp [h]),h3]
   simp [hi]
  ·rw [if_neg h] at h3
   rw [qD (by simp [h]),qQ (by omega)]
   exact hih _ ⟨i+1,rfl,hi,by rw [h3]; simp; omega⟩ (by simp only [Int.toNat_natCast]; omega)
 ·rw [qD (qax hi)]
  rw [List.drop_of_length_le (by omega)] at h3
  rw [h3]
  have:¬(i+(qci f []).1<rows.length):=by simp [qci]; omega
  simp [this]
theorem qoE (N:Nat) (xs:qaa) (h:xs.length≤1099511627776):qN N (xs,())=some ((xs,()),()):=qq2 xs 32 (by omega)
theorem qko (N:Nat) (rows:List qaa) (hN:rows.length<N) (hB:N≤1099511627776) (hr:∀r∈rows,r.length≤1099511627776):qbb N (rows,())=some ((rows,()),()):=by
 simp only [qbb]
 refine qhY (S:=((List qaa)×(Int×Unit))) (fun i=>(rows.take i,((i:Int),()))) rows.length _ (by simp) (fun i hi ih=> ?_) (fun ih=> ?_) hN
 ·simp only
  rw [qC (qaW hi),qK hi,cond_true,qF _ hi,qoE N _ (hr _ (List.getElem_mem hi))]
  simp only [qf,qh,Bool.true_and]
  rw [qC (qdZ (by rw [List.length_take]; simp; omega)),qQ (by omega),qbo,qba hi]
 ·simp only
  rw [qD (qax (Nat.lt_irrefl _)),List.take_length]
theorem qqE (N:Nat) (xs ys:List qaa) (φ:(qaa×(qaa×Unit))→Option (Bool×Unit)) (hφ:∀a∈xs,∀b∈ys,φ (a,(b,()))=some (decide (a=b),())) (hN:xs.length<N) (hB:N≤1099511627776):
  qbk N (xs,(ys,(φ,())))=some ((decide (xs=ys),()),()):=by
 simp only [qbk]
 by_cases hl:xs.length=ys.length
 ·rw [qD (by rw [qaG,qj,qj,hl]; simp)]
  refine qcR (S:=Int×Unit) (R:=(Bool×Unit)×Unit) (fun p=>xs.length - p.1.toNat) (fun p=>∃i:Nat,p.1=(i:Int)∧i≤xs.length∧xs.take i=ys.take i) (fun _=>((decide (xs=ys),()),())) ?_ N _ ⟨0,rfl,Nat.zero_le _,by simp⟩ (by simp; omega)
  rintro ih ⟨_,_⟩ ⟨i,rfl,h2,h3⟩ hih
  simp only [Int.toNat_natCast] at hih⊢
  by_cases hi:i<xs.length
  ·have hj:i<ys.length:=by omega
   rw [qC (qaW hi),qK hi,qK hj,qF _ hi,qF _ hj,hφ _ (List.getElem_mem hi) _ (List.getElem_mem hj)]
   simp only [qf,qh,cond_true]
   by_cases e:xs[i]=ys[i]
   ·rw [qD (by simp [e]),qQ (by omega),hih _ ⟨i+1,rfl,by omega,by rw [qba hi,qba hj,h3,e]⟩ (by simp only [Int.toNat_natCast]; omega)]
   ·rw [qC (by simp [e])]
    have:xs≠ys:=fun h=>e (by subst h; rfl)
    simp [this]
  ·rw [qD (qax hi)]
   have e1:i=xs.length:=by omega
   subst e1
   have:xs=ys:=by
    have:=h3
    rwa [List.take_length,hl,List.take_length] at this
   simp [this]
 ·rw [qC (by rw [qaG,qj,qj]; simp; omega)]
  have:xs≠ys:=fun h=>hl (by rw [h])
  simp [this]
theorem qqF (N:Nat) (xs ys:List qaa) (hN:xs.length<N) (hB:N≤1099511627776) (hx:∀r∈xs,(qdD r).length≤1099511627776) (hy:∀r∈ys,(qdD r).length≤1099511627776):qco N (xs,(ys,()))=some ((decide (xs=ys),()),()):=by
 have:=qqE N xs ys (fun x0=>(qf7 (fun y1=>(y1.1.1,())) (qb3 N (x0.1,(x0.2.1,()))))) (fun a ha b hb=>by
  simp only [qb3,qdk N a (hx a ha),qdk N b (hy b hb),qf,qh,Bool.and_self,cond_true,qch,qck,Option.map_some]
  by_cases h:a=b
  ·simp [h]
  ·have:qdD a≠qdD b:=fun e=>h (qnm e)
   simp [h,this]) hN hB
 simp only [qco,this,qf,qh,cond_true]
theorem qwX (N:Nat) (xs ys:qaa) (hN:xs.length<N) (hb:xs.length≤1099511627776):qa4 N (xs,(ys,()))=some ((decide (xs=ys),()),()):=by
 simp only [qa4]
 by_cases hl:xs.length=ys.length
 ·rw [qD (by rw [qaG,qj,qj,hl]; simp)]
  refine qnP (ne:=fun (a b:qc)=> !((eqI a.1 b.1)&&((eqI a.2.1 b.2.1)&&(eqS a.2.2.1 b.2.2.1)))) (fun a b=> ?_) xs ys (0,(0,(([]:List UInt8),()))) hl hb hN
  obtain ⟨a1,a2,a3,⟨⟩⟩:=a
  obtain ⟨b1,b2,b3,⟨⟩⟩:=b
  simp only [qch,qbC,Prod.mk.injEq,and_true,Bool.decide_and]
 ·rw [qC (by rw [qaG,qj,qj]; simp; omega)]
  have:xs≠ys:=fun h=>hl (by rw [h])
  simp [this]
end
end Go.Proofs.YtfcdfdnlgfebmaaGreatDoor
namespace Go.Proofs.YtfcdfdnlgfebmaaGreatDoor
open Go.Vi
noncomputable section
theorem qd6 {g:Nat→Option Int} {n:Nat} (h:∀i e,g i=some e→e≠0) {z:Int} (hz:(match qac g n with
  |some e=>e
  |none=>z)=0):qac g n=none∧z=0:=by
 cases hf:qac g n with
 |none=>rw [hf] at hz; exact ⟨rfl,hz⟩
 |some e=>
  rw [hf] at hz
  obtain ⟨i,_,h2,_⟩:=qc7 hf
  exact absurd hz (h i e h2)
theorem qv0 (ts:List qs):∀i e,qtf ts i=some e→e≠0:=fun i e h=>by
 unfold qtf at h
 split at h
 ·cases h
 split at h
 ·rename_i hv; injection h with h; subst h; exact hv
 split at h
 ·injection h with h; subst h; decide
 ·cases h
theorem qxl (s:qe):∀i e,fkL s i=some e→e≠0:=fun i e h=>by
 unfold fkL at h
 split at h
 ·cases h
 split at h
 ·rename_i hv; injection h with h; subst h; exact hv
 split at h
 ·injection h with h; subst h; decide
 ·cases h
theorem qwD (s:qe):∀i e,qs5 s i=some e→e≠0:=fun i e h=>by
 unfold qs5 at h
 split at h
 ·cases h
 split at h
 ·rename_i hv; injection h with h; subst h; exact hv
 split at h
 ·injection h with h; subst h; decide
 ·cases h
theorem qxb (t r:qs) (cs:List Int):∀i e,fkE t r cs i=some e→e≠0:=fun i e h=>by
 unfold fkE at h
 split at h
 ·cases h
 split at h
 ·injection h with h; subst h; decide
 split at h
 ·injection h with h; subst h; decide
 ·cases h
structure qj2 (s:qe):Prop where
 tabs:qac (qtf s.1) s.1.length=none
 few:s.1.length≤6
 fks:∀f∈s.2.1,vFk s f=0
 cons:∀c∈s.2.2.1,qwR s c=0
theorem qnr {s:qe} (h:qmv s=0):qj2 s:=by
 unfold qmv at h
 split at h
 ·cases h
 rename_i h0
 obtain ⟨h1,h⟩:=qd6 (qv0 s.1) h
 obtain ⟨h2,h⟩:=qd6 (qxl s) h
 obtain ⟨h3,_⟩:=qd6 (qwD s) h
 refine ⟨h1,by omega,fun f hf=> ?_,fun c hc=> ?_⟩
 ·obtain ⟨i,hi,rfl⟩:=List.getElem_of_mem hf
  have:=qaP h2 i hi
  simp only [fkL,List.getElem?_eq_getElem hi] at this
  split at this
  ·cases this
  ·rename_i hv; simpa using hv
 ·obtain ⟨i,hi,rfl⟩:=List.getElem_of_mem hc
  have:=qaP h3 i hi
  simp only [qs5,List.getElem?_eq_getElem hi] at this
  split at this
  ·cases this
  ·rename_i hv; simpa using hv
theorem qsd {a b c:List UInt8} (h1:qhq a b=true) (h2:qhq b c=true):qhq a c=true:=by
 rw [qlr,decide_eq_true_eq] at *
 exact qqb a b c h1 h2
theorem qnZ (a:List UInt8):qhq a a=false:=by
 rw [qlr,(qqp a a).2 rfl]; rfl
theorem qj2.names {s:qe} (h:qj2 s):s.1.Pairwise (fun a b=>qhq a.1 b.1=true):=
 qoC (fun a b:qs=>qhq a.1 b.1=true) (fun _ _ _ h1 h2=>qsd h1 h2) s.1 fun i hi=>by
  have:=qaP h.tabs (i+1) hi
  simp only [qtf,List.getElem?_eq_getElem hi] at this
  split at this
  ·cases this
  split at this
  ·cases this
  rename_i hq
  have e:((i+1:Nat):Int) - 1=(i:Int):=by omega
  rw [e,qF _ (show i<s.1.length by omega)] at hq
  simpa using hq
theorem qj2.self {s:qe} (h:qj2 s) {i:Nat} (hi:i<s.1.length):qke (qdh (s.1[i]).1) s.1=some i:=by
 cases hx:qke (qdh (s.1[i]).1) s.1 with
 |none=>
  have:=qk2 hx _ (List.getElem_mem hi)
  simp [qdh] at this
 |some j=>
  obtain ⟨hj,h1,h2⟩:=qhZ hx
  by_cases hij:j=i
  ·rw [hij]
  ·have hji:j<i:=by
    by_cases hlt:i<j
    ·have:=h2 i hlt
     simp [qdh] at this
    ·omega
   have:=List.pairwise_iff_getElem.1 h.names j i hj hi hji
   have e:(s.1[j]).1=(s.1[i]).1:=by simpa [qdh] using h1
   rw [e,qnZ] at this
   cases this
theorem qj2.fk {s:qe} (h:qj2 s) {f:qI} (hf:f∈s.2.1):∃t r,qgF s f.1=some t∧qgF s f.2.2.1=some r∧f.2.1.length=r.2.2.1.length∧∀c∈f.2.1,0≤c∧c<(t.2.1.length:Int):=by
 have:=h.fks f hf
 unfold vFk at this
 split at this
 ·rename_i t r h1 h2
  split at this
  ·cases this
  rename_i hl
  obtain ⟨h3,_⟩:=qd6 (qxb t r f.2.1) this
  refine ⟨t,r,h1,h2,by omega,fun c hc=> ?_⟩
  obtain ⟨j,hj,rfl⟩:=List.getElem_of_mem hc
  have:=qaP h3 j hj
  simp only [fkE,List.getElem?_eq_getElem hj] at this
  split at this
  ·cases this
  ·omega
 ·cases this
theorem qj2.con {s:qe} (h:qj2 s) {c:qX} (hc:c∈s.2.2.1):∃t,qgF s c.1=some t∧0≤c.2.1∧c.2.1<(t.2.1.length:Int)∧qtY c.2.2.1=true∧ -1≤c.2.2.2.1∧c.2.2.2.1<(t.2.1.length:Int):=by
 have:=h.cons c hc
 unfold qwR at this
 split at this
 ·cases this
 rename_i t ht
 split at this
 ·cases this
 rename_i hn
 simp only [not_or] at hn
 exact ⟨t,ht,by omega,by omega,by simpa using hn.2.2.1,by omega,by omega⟩
abbrev qb2:Type:=List UInt8×(List qaa×Unit)
def qsn (t:qs) (row:qaa) (i:Nat):Option Int:=match row[i]? with
 |none=>none
 |some v=>if qr1 v≠0 then some (qr1 v) else if v.1=0∧(qi t.2.1 (i:Int) qlA).2.2.1=false then some 8 else if v.1≠0∧v.1≠(qi t.2.1 (i:Int) qlA).2.1 then some 7 else none
def qtu (t:qs) (row:qaa):Int:=if row.length≠t.2.1.length then 3 else match qac (qsn t row) row.length with
 |some e=>e
 |none=>0
theorem qri (N:Nat) (t:qs) (row:qaa) (hN:row.length<N) (hB:N≤1099511627776):qa0 N (t,(row,()))=some ((qtu t row,()),()):=by
 simp only [qa0,qG,qmT,qaJ]
 unfold qtu
 by_cases h0:row.length≠t.2.1.length
 ·rw [if_pos h0,if_pos h0]
 rw [if_neg h0,if_neg h0]
 have hl:row.length=t.2.1.length:=by omega
 refine (qaj (S:=Int×Unit) (fun i=>((i:Int),())) row.length (qsn t row) (fun e=>some ((e,()),())) (some ((0,()),())) rfl (fun i hi _ ih=> ?_) (fun _ ih=> ?_) hN).trans ?_
 ·simp only
  have hit:i<t.2.1.length:=by omega
  rw [qC (qaW hi),qC (qK hi),qF _ hi,qnO,qQ (by omega),qK hit]
  simp only [qf,qh,cond_true,qsn,List.getElem?_eq_getElem hi,qF _ hit,qaG,qbC,←decide_not,Bool.or_true]
  generalize qr1 row[i]=vv
  generalize (t.2.1[i]).2.2.1=nb
  generalize (t.2.1[i]).2.1=ck
  generalize (row[i]).1=rk
  by_cases q1:vv=0 <;> by_cases q2:rk=0 <;> by_cases q3:rk=ck <;> cases nb <;> first|(simp [q1,q2,q3]; done)|(subst q3; simp [q1,q2])
 ·simp only
  rw [qD (qax (Nat.lt_irrefl _))]
 ·cases qac (qsn t row) row.length <;> rfl
theorem qqW (N:Nat) (t:qs) (row:qaa) (hN:row.length<N) (hB:N≤1099511627776):qaY N (t,(row,()))=some ((qtu t row,()),()):=by
 simp only [qaY,qG,qmT,qaJ]
 unfold qtu
 by_cases h0:row.length≠t.2.1.length
 ·rw [if_pos h0,if_pos h0]
 rw [if_neg h0,if_neg h0]
 have hl:row.length=t.2.1.length:=by omega
 refine (qaj (S:=Int×Unit) (fun i=>((i:Int),())) row.length (qsn t row) (fun e=>some ((e,()),())) (some ((0,()),())) rfl (fun i hi _ ih=> ?_) (fun _ ih=> ?_) hN).trans ?_
 ·simp only
  have hit:i<t.2.1.length:=by omega
  rw [qC (qaW hi),qC (qK hi),qF _ hi,qn2,qQ (by omega),qK hit]
  simp only [qf,qh,cond_true,qsn,List.getElem?_eq_getElem hi,qF _ hit,qaG,qbC,←decide_not,Bool.or_true]
  generalize qr1 row[i]=vv
  generalize (t.2.1[i]).2.2.1=nb
  generalize (t.2.1[i]).2.1=ck
  generalize (row[i]).1=rk
  by_cases q1:vv=0 <;> by_cases q2:rk=0 <;> by_cases q3:rk=ck <;> cases nb <;> first|(simp [q1,q2,q3]; done)|(subst q3; simp [q1,q2])
 ·simp only
  rw [qD (qax (Nat.lt_irrefl _))]
 ·cases qac (qsn t row) row.length <;> rfl
abbrev qvV:qb2:=(([]:List UInt8),(([]:List qaa),()))
abbrev qyt:qs:=(([]:List UInt8),(([]:List qg),(([]:List Int),())))
def qmX (t:qs) (rows:List qaa) (i:Nat):Option Int:=match rows[i]? with
 |none=>none
 |some row=>if qtu t row≠0 then some (qtu t row) else if 0<i∧qH (qad t.2.2.1 (qi rows ((i:Int) - 1) [])) (qad t.2.2.1 row)=0 then some 9 else if 0<i∧0<qH (qad t.2.2.1 (qi rows ((i:Int) - 1) [])) (qad t.2.2.1 row) then some 6 else none
def qtB (ts:List qs) (rels:List qb2) (i:Nat):Option Int:=match rels[i]? with
 |none=>none
 |some r=>if r.1≠(qi ts (i:Int) qyt).1 then some 3 else if 24<r.2.1.length then some 2 else qac (qmX (qi ts (i:Int) qyt) r.2.1) r.2.1.length
def qej (s:qe) (rels:List qb2):Int:=if rels.length≠s.1.length then 3 else match qac (qtB s.1 rels) rels.length with
 |some e=>e
 |none=>0
structure qf8 (N:Nat) (rels:List qb2):Prop where
 n:rels.length<N
 rows:∀r∈rels,r.2.1.length<N
 row:∀r∈rels,∀x∈r.2.1,x.length<N
 enc:∀r∈rels,∀x∈r.2.1,(qdD x).length≤1099511627776
theorem qnQ {α:Type} (xs:List α):ltI 24 (qn xs)=decide (24<xs.length):=qmG xs 24
theorem qjC:(a b:qaa)→qH a b= -1∨qH a b=0∨qH a b=1
 |[],ys=>by have:=qbv 0 (ys.length:Int); simp only [qH]; omega
 |_::xs,[]=>by have:=qbv ((xs.length:Int)+1) 0; simp only [qH]; omega
 |x::xs,y::ys=>by
  have h1:=qta x y
  have h2:=qjC xs ys
  simp only [qH]
  split <;> assumption
theorem qma (N:Nat) (s:qe) (rels:List qb2) (hs:qfC N s) (hr:qf8 N rels):qbB N (s,(rels,()))=some ((qej s rels,()),()):=by
 have hn:=hs.sm.n
 have hrn:=hr.n
 simp only [qbB,qG,qmT,qaJ]
 unfold qej
 by_cases h0:rels.length≠s.1.length
 ·rw [if_pos h0,if_pos h0]
 rw [if_neg h0,if_neg h0]
 have hl:rels.length=s.1.length:=by omega
 refine (qaj (S:=Int×Unit) (fun i=>((i:Int),())) rels.length (qtB s.1 rels) (fun e=>some ((e,()),())) (some ((0,()),())) rfl (fun i hi _ ih=> ?_) (fun _ ih=> ?_) hr.n).trans ?_
 ·have hit:i<s.1.length:=by omega
  have hm:=List.getElem_mem hi
  have ht:qoF N s.1[i]:=hs.tab (List.getElem_mem hit)
  have hrows:=hr.rows _ hm
  have hrow:=hr.row _ hm
  simp only [qF _ hi,qF _ hit,qaW hi,qK hi,qK hit,cond_true,qtB,List.getElem?_eq_getElem hi,qQ (show i<4611686018427387904 by omega)]
  generalize hrel:rels[i]=rel at *
  generalize htab:s.1[i]=t at *
  simp only [qch,←decide_not,qaJ,qnQ]
  by_cases h1:rel.1=t.1
  ·have h1':¬(rel.1≠t.1):=fun h=>h h1
   rw [if_neg h1']; try rw [if_neg h1']
   by_cases h2:24<rel.2.1.length
   ·rw [if_pos h2]; try rw [if_pos h2]
   rw [if_neg h2]; try rw [if_neg h2]
   refine qaj (S:=Int×Unit) (fun k=>((k:Int),())) rel.2.1.length (qmX t rel.2.1) (fun e=>some ((e,()),())) _ rfl (fun k hk _ ih2=> ?_) (fun _ ih2=> ?_) hrows
   ·have hrk:=hrow _ (List.getElem_mem hk)
    have hcmp:∀a b:qaa,qM N (qad t.2.2.1 a,(qad t.2.2.1 b,()))=some ((qH (qad t.2.2.1 a) (qad t.2.2.1 b),()),()):=fun a b=>qhd N _ _ (by rw [qeA]; exact ht.k) hn
    simp only [qF _ hk,qaW hk,qK hk,cond_true,qri N t _ hrk hn,qf,qh,qaG,qbC,qbl,qtw N t _ ht.k hn,hcmp,qQ (show k<4611686018427387904 by omega),qmX,List.getElem?_eq_getElem hk,qaJ,Bool.and_true]
    by_cases h3:qtu t rel.2.1[k]=0
    ·simp only [h3,decide_true,Bool.not_true,cond_false,ne_eq,not_true_eq_false,if_false]
     by_cases h8:0<k
     ·have e5:qT .i64 (k:Int) 1=(k:Int) - 1:=qam (by omega) (by omega)
      have e6:inB ((k:Int) - 1) (qn rel.2.1)=true:=by rw [qcZ,qj]; simp; omega
      rw [e5,e6,if_neg (by omega),cond_true]
      have c:=qjC (qad t.2.2.1 (qi rel.2.1 ((k:Int) - 1) [])) (qad t.2.2.1 rel.2.1[k])
      generalize qH (qad t.2.2.1 (qi rel.2.1 ((k:Int) - 1) [])) (qad t.2.2.1 rel.2.1[k])=cc at *
      by_cases c0:cc=0
      ·simp [c0,h8]
      ·by_cases c1:0<cc
       ·simp [c0,c1,h8]
       ·simp [c0,c1,h8]
     ·rw [if_pos (by omega)]
      simp [h8]
    ·simp only [h3,decide_false,Bool.not_false,cond_true,ne_eq,not_false_eq_true,if_true]
   ·simp only
    rw [qD (qax (Nat.lt_irrefl _))]
  ·rw [if_pos h1]; try rw [if_pos h1]
 ·simp only
  rw [qD (qax (Nat.lt_irrefl _))]
 ·cases qac (qtB s.1 rels) rels.length <;> rfl
theorem quq (N:Nat) (s:qe) (rels:List qb2) (hs:qfC N s) (hr:qf8 N rels):qcx N (s,(rels,()))=some ((qej s rels,()),()):=by
 have hn:=hs.sm.n
 have hrn:=hr.n
 simp only [qcx,qG,qmT,qaJ]
 unfold qej
 by_cases h0:rels.length≠s.1.length
 ·rw [if_pos h0,if_pos h0]
 rw [if_neg h0,if_neg h0]
 have hl:s.1.length=rels.length:=by omega
 rw [←hl]
 refine (qaj (S:=Int×Unit) (fun i=>((i:Int),())) s.1.length (qtB s.1 rels) (fun e=>some ((e,()),())) (some ((0,()),())) rfl (fun i hit _ ih=> ?_) (fun _ ih=> ?_) hs.sm.t).trans ?_
 ·have hi:i<rels.length:=by omega
  have hm:=List.getElem_mem hi
  have ht:qoF N s.1[i]:=hs.tab (List.getElem_mem hit)
  have hrows:=hr.rows _ hm
  have hrow:=hr.row _ hm
  simp only [qF _ hi,qF _ hit,qaW hit,qK hi,qK hit,cond_true,qtB,List.getElem?_eq_getElem hi,qQ (show i<4611686018427387904 by omega)]
  generalize hrel:rels[i]=rel at *
  generalize htab:s.1[i]=t at *
  simp only [qch,←decide_not,qaJ,qnQ]
  by_cases h1:rel.1=t.1
  ·have h1':¬(rel.1≠t.1):=fun h=>h h1
   rw [if_neg h1']; try rw [if_neg h1']
   by_cases h2:24<rel.2.1.length
   ·rw [if_pos h2]; try rw [if_pos h2]
   rw [if_neg h2]; try rw [if_neg h2]
   refine qaj (S:=qaa×(Int×Unit)) (fun k=>((if 0<k then qad t.2.2.1 (qi rel.2.1 ((k:Int) - 1) []) else []),((k:Int),()))) rel.2.1.length (qmX t rel.2.1) (fun e=>some ((e,()),())) _ rfl (fun k hk _ ih2=> ?_) (fun _ ih2=> ?_) hrows
   ·have hrk:=hrow _ (List.getElem_mem hk)
    have hnx:(if 0<k+1 then qad t.2.2.1 (qi rel.2.1 (((k+1:Nat):Int) - 1) []) else [])=qad t.2.2.1 rel.2.1[k]:=by
     rw [if_pos (by omega),show ((k+1:Nat):Int) - 1=(k:Int) by omega,qF _ hk]
    rw [hnx]
    simp only [qF _ hk,qaW hk,qK hk,cond_true,qqW N t _ hrk hn,qf,qh,qaG,qbC,qbl,qjJ N t _ ht.k hn,qQ (show k<4611686018427387904 by omega),qmX,List.getElem?_eq_getElem hk,qaJ,Bool.and_true]
    by_cases h3:qtu t rel.2.1[k]=0
    ·simp only [h3,decide_true,Bool.not_true,cond_false,ne_eq,not_true_eq_false,if_false]
     by_cases h8:0<k
     ·rw [if_pos h8,if_pos (show (0:Int)<(k:Int) by omega)]
      have hcmp:∀a b:qaa,qJ N (qad t.2.2.1 a,(qad t.2.2.1 b,()))=some ((qH (qad t.2.2.1 a) (qad t.2.2.1 b),()),()):=fun a b=>qeK N _ _ (by rw [qeA]; exact ht.k) hn
      simp only [hcmp,qf,qh,cond_true]
      have c:=qjC (qad t.2.2.1 (qi rel.2.1 ((k:Int) - 1) [])) (qad t.2.2.1 rel.2.1[k])
      generalize qH (qad t.2.2.1 (qi rel.2.1 ((k:Int) - 1) [])) (qad t.2.2.1 rel.2.1[k])=cc at *
      by_cases c0:cc=0
      ·simp [c0,h8]
      ·by_cases c1:cc=1
       ·simp [c1,h8]
       ·have:¬0<cc:=by omega
        simp [c0,c1,this]
     ·rw [if_neg (show ¬(0:Int)<(k:Int) by omega)]
      simp [h8]
    ·simp only [h3,decide_false,Bool.not_false,cond_true,ne_eq,not_false_eq_true,if_true]
   ·simp only
    rw [qD (qax (Nat.lt_irrefl _))]
  ·rw [if_pos h1]; try rw [if_pos h1]
 ·simp only
  rw [qD (qax (Nat.lt_irrefl _))]
 ·cases qac (qtB s.1 rels) s.1.length <;> rfl
theorem qxd {t:qs} {row:qaa} (h:qtu t row=0):row.length=t.2.1.length:=by
 unfold qtu at h
 split at h
 ·cases h
 ·omega
theorem qt0 (t:qs) (rows:List qaa):∀i e,qmX t rows i=some e→e≠0:=fun i e h=>by
 unfold qmX at h
 split at h
 ·cases h
 split at h
 ·rename_i hv; injection h with h; subst h; exact hv
 split at h
 ·injection h with h; subst h; decide
 split at h
 ·injection h with h; subst h; decide
 ·cases h
theorem qq5 (ts:List qs) (rels:List qb2):∀i e,qtB ts rels i=some e→e≠0:=fun i e h=>by
 unfold qtB at h
 split at h
 ·cases h
 split at h
 ·injection h with h; subst h; decide
 split at h
 ·injection h with h; subst h; decide
 ·obtain ⟨j,_,h2,_⟩:=qc7 h
  exact qt0 _ _ j e h2
structure qy0 (s:qe) (rels:List qb2):Prop where
 len:rels.length=s.1.length
 name:∀i (hi:i<rels.length) (ht:i<s.1.length),(rels[i]).1=(s.1[i]).1
 row:∀i (hi:i<rels.length) (ht:i<s.1.length),∀r∈(rels[i]).2.1,r.length=(s.1[i]).2.1.length
 sorted:∀i (hi:i<rels.length) (ht:i<s.1.length),(rels[i]).2.1.Pairwise (fun a b=>qH (qad (s.1[i]).2.2.1 a) (qad (s.1[i]).2.2.1 b)<0)
theorem qn1 {s:qe} {rels:List qb2} (h:qej s rels=0):qy0 s rels:=by
 unfold qej at h
 split at h
 ·cases h
 rename_i h0
 obtain ⟨h1,_⟩:=qd6 (qq5 s.1 rels) h
 have key:∀i (hi:i<rels.length) (ht:i<s.1.length),(rels[i]).1=(s.1[i]).1∧qac (qmX s.1[i] (rels[i]).2.1) (rels[i]).2.1.length=none:=fun i hi ht=>by
  have:=qaP h1 i hi
  simp only [qtB,List.getElem?_eq_getElem hi,qF _ ht] at this
  split at this
  ·cases this
  rename_i hq
  split at this
  ·cases this
  exact ⟨by simpa using hq,this⟩
 refine ⟨by omega,fun i hi ht=>(key i hi ht).1,fun i hi ht r hr=> ?_,fun i hi ht=> ?_⟩
 ·obtain ⟨k,hk,rfl⟩:=List.getElem_of_mem hr
  have:=qaP (key i hi ht).2 k hk
  simp only [qmX,List.getElem?_eq_getElem hk] at this
  split at this
  ·cases this
  rename_i hv
  exact qxd (by simpa using hv)
 ·refine qoC (fun a b:qaa=>qH (qad (s.1[i]).2.2.1 a) (qad (s.1[i]).2.2.1 b)<0) (fun _ _ _ h1 h2=>qbP _ _ _ h1 h2) (rels[i]).2.1 fun k hk=> ?_
  have:=qaP (key i hi ht).2 (k+1) hk
  simp only [qmX,List.getElem?_eq_getElem hk] at this
  rw [show ((k+1:Nat):Int) - 1=(k:Int) by omega,qF _ (show k<(rels[i]).2.1.length by omega)] at this
  split at this
  ·cases this
  split at this
  ·cases this
  rename_i h3
  split at this
  ·cases this
  rename_i h4
  have c:=qjC (qad (s.1[i]).2.2.1 (rels[i]).2.1[k]) (qad (s.1[i]).2.2.1 (rels[i]).2.1[k+1])
  have h3':=fun h=>h3 ⟨Nat.succ_pos _,h⟩
  have h4':=fun h=>h4 ⟨Nat.succ_pos _,h⟩
  omega
def qlj (s:qe) (rels:List qb2) (n:List UInt8):List qaa:=match qke (qdh n) s.1 with
 |none=>[]
 |some i=>match rels[i]? with
  |none=>[]
  |some r=>r.2.1
def qeT (s:qe) (n:List UInt8):qs:=(qgF s n).getD qyt
theorem qy0.at {s:qe} {rels:List qb2} (h:qy0 s rels) {n:List UInt8} {t:qs} (ht:qgF s n=some t):∃(i:Nat) (hi:i<s.1.length) (hr:i<rels.length),qke (qdh n) s.1=some i∧s.1[i]=t∧qlj s rels n=(rels[i]).2.1∧qeT s n=t:=by
 rcases qfF s n with ⟨_,h2⟩|⟨i,t',h1,h2,hi,h3⟩
 ·rw [h2] at ht; cases ht
 ·rw [h2] at ht
  injection ht with ht
  subst ht
  have hr:i<rels.length:=by rw [h.len]; exact hi
  refine ⟨i,hi,hr,h1,?_,?_,?_⟩
  ·have:=h3 qyt; rwa [qF _ hi] at this
  ·unfold qlj; rw [h1]; simp only [List.getElem?_eq_getElem hr]
  ·unfold qeT; rw [h2]; rfl
def anyE {α E:Type} (q:α→Bool) (e:E) (xs:List α) (i:Nat):Option E:=match xs[i]? with
 |none=>none
 |some x=>if q x=true then some e else none
theorem anyE_first {α E:Type} (q:α→Bool) (e:E) (xs:List α):qac (anyE q e xs) xs.length=if xs.any q=true then some e else none:=by
 cases hf:qac (anyE q e xs) xs.length with
 |none=>
  have:xs.any q=false:=by
   rw [List.any_eq_false]
   intro x hx hq
   obtain ⟨i,hi,rfl⟩:=List.getElem_of_mem hx
   have:=qaP hf i hi
   simp only [anyE,List.getElem?_eq_getElem hi,hq,if_true] at this
   cases this
  rw [this]
  rfl
 |some e'=>
  obtain ⟨i,hi,h2,_⟩:=qc7 hf
  simp only [anyE,List.getElem?_eq_getElem hi] at h2
  split at h2
  ·rename_i hq
   rw [if_pos (List.any_eq_true.2 ⟨_,List.getElem_mem hi,hq⟩),h2]
  ·cases h2
theorem cellV_at (row:qaa) {i:Int} (h1:0≤i) (h2:i<(row.length:Int)):qi row i (0,(0,(([]:List UInt8),())))=qox row i:=by
 obtain ⟨k,rfl⟩:∃k:Nat,i=(k:Int):=⟨i.toNat,by omega⟩
 have hk:k<row.length:=by omega
 rw [qF _ hk,qox,dif_pos ⟨h1,h2⟩]
 simp only [Int.toNat_natCast]
def satB (a:qpe) (op:List UInt8) (b:qpe):Bool:=decide (a.1=0)||(decide (b.1=0)||((decide (vc a b=0)&& !decide (op=[60]))||(decide (vc a b<0)&& !decide (op=[61]))))
def satS (c:qX) (row:qaa):Bool:=satB (qox row c.2.1) c.2.2.1 (if 0≤c.2.2.2.1 then qox row c.2.2.2.1 else c.2.2.2.2.1)
theorem valSat_eq (N:Nat) (a b:qpe) (op:List UInt8) (h:qtY op=true):qb9 N (a,(op,(b,())))=some ((satB a op b,(0,())),()):=by
 simp only [qb9,qG,qpk,qf,qh,cond_true,qch,qbC,qbl,satB]
 unfold qtY at h
 generalize decide (a.1=0)=a0
 generalize decide (b.1=0)=b0
 generalize decide (op=[61])=o1 at *
 generalize decide (op=[60])=o2 at *
 generalize decide (op=[60,61])=o3 at *
 cases a0 <;> cases b0 <;> cases o1 <;> cases o2 <;> cases o3 <;> simp at h⊢
end
end Go.Proofs.YtfcdfdnlgfebmaaGreatDoor
namespace Go.Proofs.YtfcdfdnlgfebmaaGreatDoor
open Go.Vi
noncomputable section
def nullV (v:qpe):Bool:=decide (v.1=0)
def refS (s:qe) (rels:List qb2) (f:qI) (row:qaa):Bool:=(qad f.2.1 row).any nullV||(qlj s rels f.2.2.1).any (fun r=>decide (qad (qeT s f.2.2.1).2.2.1 r=qad f.2.1 row))
structure qx8 (s:qe) (rels:List qb2):Prop where
 kt:∀r∈rels,∀row∈r.2.1,∀t∈s.1,(qdD (qad t.2.2.1 row)).length≤1099511627776
 kf:∀r∈rels,∀row∈r.2.1,∀f∈s.2.1,(qdD (qad f.2.1 row)).length≤1099511627776
theorem rowsS_sub {s:qe} {rels:List qb2} {n:List UInt8} {r:qaa} (h:r∈qlj s rels n):∃q∈rels,r∈q.2.1:=by
 unfold qlj at h
 split at h
 ·cases h
 split at h
 ·cases h
 ·rename_i i _ q hq
  obtain ⟨hi,rfl⟩:=List.getElem?_eq_some_iff.1 hq
  exact ⟨_,List.getElem_mem hi,h⟩
theorem rowsS_len {N:Nat} {s:qe} {rels:List qb2} (n:List UInt8) (hr:qf8 N rels) (h0:0<N):(qlj s rels n).length<N:=by
 unfold qlj
 split
 ·exact h0
 split
 ·exact h0
 ·rename_i i _ q hq
  obtain ⟨hi,rfl⟩:=List.getElem?_eq_some_iff.1 hq
  exact hr.rows _ (List.getElem_mem hi)
theorem qy0.rowLen {s:qe} {rels:List qb2} (h:qy0 s rels) {n:List UInt8} {t:qs} (ht:qgF s n=some t) {r:qaa} (hr:r∈qlj s rels n):r.length=t.2.1.length:=by
 obtain ⟨i,hi,hri,_,e2,e3,_⟩:=h.at ht
 rw [e3] at hr
 rw [h.row i hri hi r hr,e2]
theorem qr5 {pk:List Int} {rows:List qaa} (h:rows.Pairwise (fun a b=>qH (qad pk a) (qad pk b)<0)) (key:qaa):(qci (fun r=>qH (qad pk r) key) rows).2=rows.any (fun r=>decide (qad pk r=key)):=by
 rw [qpR _ rows (h.imp fun {a b} hab h0=> ?_)]
 ·have e:(fun r=>decide (qH (qad pk r) key=0))=fun r=>decide (qad pk r=key):=funext fun r=>decide_eq_decide.2 (qdg _ _)
  rw [e]
 ·have c:=qjC (qad pk b) key
  rcases c with c|c|c
  ·have:=qbP _ _ _ hab (show qH (qad pk b) key<0 by omega)
   omega
  ·have:=(qdg _ _).1 c
   rw [this] at hab
   omega
  ·omega
def badF (s:qe) (rels:List qb2) (f:qI):Bool:=(qlj s rels f.1).any (fun r=> !refS s rels f r)
def badC (s:qe) (rels:List qb2) (c:qX):Bool:=(qlj s rels c.1).any (fun r=> !satS c r)
def vInst (s:qe) (rels:List qb2):Int:=if qej s rels≠0 then qej s rels else if s.2.1.any (badF s rels)=true then 10 else if s.2.2.1.any (badC s rels)=true then 11 else 0
end
end Go.Proofs.YtfcdfdnlgfebmaaGreatDoor
namespace Go.Proofs.YtfcdfdnlgfebmaaGreatDoor
open Go.Vi
noncomputable section
theorem qvi (N:Nat) (xs ys:List qb2) (φ:(qb2×(qb2×Unit))→Option (Bool×Unit)) (hφ:∀a∈xs,∀b∈ys,φ (a,(b,()))=some (decide (a=b),())) (hN:xs.length<N) (hB:N≤1099511627776):
  qaw N (xs,(ys,(φ,())))=some ((decide (xs=ys),()),()):=by
 simp only [qaw]
 by_cases hl:xs.length=ys.length
 ·rw [qD (by rw [qaG,qj,qj,hl]; simp)]
  refine qcR (S:=Int×Unit) (R:=(Bool×Unit)×Unit) (fun p=>xs.length - p.1.toNat) (fun p=>∃i:Nat,p.1=(i:Int)∧i≤xs.length∧xs.take i=ys.take i) (fun _=>((decide (xs=ys),()),())) ?_ N _ ⟨0,rfl,Nat.zero_le _,by simp⟩ (by simp; omega)
  rintro ih ⟨_,_⟩ ⟨i,rfl,h2,h3⟩ hih
  simp only [Int.toNat_natCast] at hih⊢
  by_cases hi:i<xs.length
  ·have hj:i<ys.length:=by omega
   rw [qC (qaW hi),qK hi,qK hj,qF _ hi,qF _ hj,hφ _ (List.getElem_mem hi) _ (List.getElem_mem hj)]
   simp only [qf,qh,cond_true]
   by_cases e:xs[i]=ys[i]
   ·rw [qD (by simp [e]),qQ (by omega),hih _ ⟨i+1,rfl,by omega,by rw [qba hi,qba hj,h3,e]⟩ (by simp only [Int.toNat_natCast]; omega)]
   ·rw [qC (by simp [e])]
    have:xs≠ys:=fun h=>e (by subst h; rfl)
    simp [this]
  ·rw [qD (qax hi)]
   have e1:i=xs.length:=by omega
   subst e1
   have:xs=ys:=by
    have:=h3
    rwa [List.take_length,hl,List.take_length] at this
   simp [this]
 ·rw [qC (by rw [qaG,qj,qj]; simp; omega)]
  have:xs≠ys:=fun h=>hl (by rw [h])
  simp [this]
theorem rel_eq (a b:qb2):(decide (a.1=b.1)&&decide (a.2.1=b.2.1))=decide (a=b):=by
 obtain ⟨a1,a2,⟨⟩⟩:=a
 obtain ⟨b1,b2,⟨⟩⟩:=b
 rw [←Bool.decide_and]
 exact decide_eq_decide.2 (by simp only [Prod.mk.injEq,and_true])
theorem qxu (N:Nat) (xs ys:List qb2) (hx:qf8 N xs) (hy:qf8 N ys) (hB:N≤1099511627776):qbq N (xs,(ys,()))=some ((decide (xs=ys),()),()):=by
 have h:qaw N (xs,(ys,((fun x0=>(qf7 (fun y1:((Bool×Unit)×Unit)=>(y1.1.1,())) (qa7 N (x0.1,(x0.2.1,()))))),())))=some ((decide (xs=ys),()),()):=
  qvi N xs ys _ (fun a ha b hb=>by
   simp only [qa7,qqF N a.2.1 b.2.1 (hx.rows a ha) hB (hx.enc a ha) (hy.enc b hb),qf,qh,Bool.or_true,cond_true,qck,Option.map_some,qch,rel_eq]) hx.n hB
 simp only [qbq,h,qf,qh,cond_true]
theorem qrw (N:Nat) (xs:List qb2) (hx:qf8 N xs) (hB:N≤1099511627776):qc9 N (xs,())=some ((xs,()),()):=by
 have hn:=hx.n
 simp only [qc9]
 refine qhY (S:=(List qb2)×(Int×Unit)) (fun i=>(xs.take i,((i:Int),()))) xs.length _ (by simp) (fun i hi ih=> ?_) (fun ih=> ?_) hn
 ·have hm:=List.getElem_mem hi
  have e5:qcQ (qn (xs.take i)) (qn ([((xs[i]).1,((xs[i]).2.1,()))]:List qb2)) 40=true:=qdZ (by rw [List.length_take]; simp; omega)
  simp only [qaW hi,qK hi,cond_true,qF _ hi,qko N _ (hx.rows _ hm) hB (fun r h=>by have:=hx.row _ hm r h; omega),qf,qh,e5,Bool.and_self,qbo,qQ (show i<4611686018427387904 by omega)]
  rw [qba hi]
 ·simp only
  rw [qD (qax (Nat.lt_irrefl _)),List.take_length]
def qgL (s:qe):List qb2:=s.1.map fun t=>(t.1,(([]:List qaa),()))
theorem qvS (N:Nat) (s:qe) (hs:qfC N s):qbG N (s,())=some ((qgL s,()),()):=by
 have hn:=hs.sm.n
 have ht:=hs.sm.t
 have e1:((leI 0 (qn s.1))&&((leI (qn s.1) (qn s.1))&&(qwO (qn s.1) 40)))=true:=by
  rw [qa3,qa3,qnp,qj]; simp; omega
 simp only [qbG,qG,e1,cond_true]
 refine qhY (S:=(List qb2)×(Int×Unit)) (fun i=>((s.1.take i).map (fun t=>(t.1,(([]:List qaa),())))++List.replicate (s.1.length - i) qvV,((i:Int),()))) s.1.length _ (by rw [qg8,qj]; simp) (fun i hi ih=> ?_) (fun ih=> ?_) ht
 ·have hrep:List.replicate (s.1.length - i) qvV=qvV::List.replicate (s.1.length - (i+1)) qvV:=by
   rw [show s.1.length - i=(s.1.length - (i+1))+1 by omega,List.replicate_succ]
  have hl:i<((s.1.take i).map (fun t=>((t.1,(([]:List qaa),())):qb2))++List.replicate (s.1.length - i) qvV).length:=by
   rw [List.length_append,List.length_map,List.length_take,List.length_replicate]; omega
  have hg:((s.1.take i).map (fun t=>((t.1,(([]:List qaa),())):qb2))++List.replicate (s.1.length - i) qvV)[i]=qvV:=by
   rw [List.getElem_append_right (by rw [List.length_map,List.length_take]; omega)]
   simp
  simp only [qaW hi,qK hi,qK hl,cond_true,qF _ hi,qF _ hl,hg,qQ (show i<4611686018427387904 by omega),qbj,Int.toNat_natCast]
  have e2:(((s.1.take i).map (fun t=>((t.1,(([]:List qaa),())):qb2))++List.replicate (s.1.length - i) qvV).set i ((s.1[i]).1,qvV.2))=(s.1.take (i+1)).map (fun t=>((t.1,(([]:List qaa),())):qb2))++List.replicate (s.1.length - (i+1)) qvV:=by
   rw [hrep,List.set_append_right _ _ (by rw [List.length_map,List.length_take]; omega),qba hi,List.map_append,List.length_map,List.length_take,show i - min i s.1.length=0 by omega,List.set_cons_zero,List.append_assoc]
   rfl
  rw [e2]
 ·simp only
  rw [qD (qax (Nat.lt_irrefl _)),List.take_length,Nat.sub_self]
  simp [qgL]
theorem qx6 {N:Nat} {s:qe} (hs:qfC N s):qf8 N (qgL s):=by
 have ht:=hs.sm.t
 have hm:=hs.m
 have key:∀r∈qgL s,r.2.1=[]:=fun r hr=>by
  obtain ⟨t,_,rfl⟩:=List.mem_map.1 hr
  rfl
 refine ⟨by unfold qgL; rw [List.length_map]; exact ht,fun r hr=>by rw [key r hr]; simp; omega,fun r hr x hx=> ?_,fun r hr x hx=> ?_⟩
 ·rw [key r hr] at hx; cases hx
 ·rw [key r hr] at hx; cases hx
theorem findIdx (s:qe) (rels:List qb2) (n:List UInt8):
  (bif ((leI 0 (qmn (qdh n) s.1))&&(ltI (qmn (qdh n) s.1) (qn rels))) then inB (qmn (qdh n) s.1) (qn rels) else true)=true∧
  (bif (leI 0 (qmn (qdh n) s.1)) then inB (qmn (qdh n) s.1) (qn s.1) else true)=true∧
  (bif ((leI 0 (qmn (qdh n) s.1))&&(ltI (qmn (qdh n) s.1) (qn rels))) then (qi rels (qmn (qdh n) s.1) qvV).2.1 else ([]:List qaa))=qlj s rels n∧
  (bif (leI 0 (qmn (qdh n) s.1)) then qi s.1 (qmn (qdh n) s.1) qyt else qyt)=qeT s n:=by
 rcases qfF s n with ⟨h1,h2⟩|⟨i,t,h1,h2,hi,h3⟩
 ·have e:qmn (qdh n) s.1= -1:=by rw [qmn,h1]
  have e0:leI 0 (-1)=false:=by rw [qa3]; rfl
  simp only [e,e0,Bool.false_and,cond_false,qlj,h1,qeT,h2,Option.getD_none,and_self]
 ·have e:qmn (qdh n) s.1=(i:Int):=by rw [qmn,h1]
  have e0:leI 0 (i:Int)=true:=by rw [qa3]; simp
  by_cases hl:i<rels.length
  ·simp only [e,e0,qaW hl,qK hl,qK hi,Bool.and_self,cond_true,h3,qF _ hl,qlj,h1,List.getElem?_eq_getElem hl,qeT,h2,Option.getD_some,and_self]
  ·simp only [e,e0,qax hl,qK hi,Bool.true_and,Bool.and_false,cond_true,cond_false,h3,qlj,h1,List.getElem?_eq_none (show rels.length≤i by omega),qeT,h2,Option.getD_some,and_self]
end
end Go.Proofs.YtfcdfdnlgfebmaaGreatDoor
namespace Go.Proofs.YtfcdfdnlgfebmaaGreatDoor
open Go.Vi
noncomputable section
theorem qhr {α:Type} (f:α→Nat): {l:List α} → {x:α} →x∈l→f x≤(l.map f).sum
 |y::l,x,h=>by
  rw [List.map_cons,List.sum_cons]
  rcases List.mem_cons.1 h with rfl|h
  ·omega
  ·have:=qhr f h; omega
theorem qjk {α:Type} (f:α→Nat):(l:List α)→(∀x∈l,1≤f x)→l.length≤(l.map f).sum
 |[],_=>Nat.zero_le _
 |x::l,h=>by
  have h1:=h x List.mem_cons_self
  have h2:=qjk f l fun y hy=>h y (List.mem_cons_of_mem _ hy)
  rw [List.map_cons,List.sum_cons,List.length_cons]; omega
theorem qpU (t:qs):qps.bulk t=t.1.length+1+((t.2.1.map qwM.bulk).sum+1+((t.2.2.1.map (Ty.bulk (.int .i64))).sum+1+1)):=by
 obtain ⟨t1,t2,t3,⟨⟩⟩:=t; rfl
theorem qwU (c:qg):qwM.bulk c=c.1.length+1+(1+(1+1)):=by
 obtain ⟨c1,c2,c3,⟨⟩⟩:=c; rfl
theorem qwc (f:qI):TFk.bulk f=f.1.length+1+((f.2.1.map (Ty.bulk (.int .i64))).sum+1+(f.2.2.1.length+1+1)):=by
 obtain ⟨f1,f2,f3,⟨⟩⟩:=f; rfl
theorem qwu {t:qs} (h:qps.bulk t≤1048576):qoF 2000000 t:=by
 rw [qpU,qeJ] at h
 have h1:=qjk qwM.bulk t.2.1 fun c _=>qex qwM c
 refine ⟨by omega,by omega,by omega,by omega,by omega,fun c hc=> ?_⟩
 have:=qhr qwM.bulk hc
 rw [qwU] at this
 omega
theorem qru {s:qe} (h:qwL.bulk s≤1048576):qfC 2000000 s:=by
 obtain ⟨a,b,c,⟨⟩⟩:=s
 rw [qlB] at h
 have h1:=qjk qps.bulk a fun x _=>qex qps x
 have h2:=qjk TFk.bulk b fun x _=>qex TFk x
 have h3:=qjk qxA.bulk c fun x _=>qex qxA x
 have ht:∀t∈a,qoF 2000000 t:=fun t ht=>qwu (by have:=qhr qps.bulk ht; omega)
 have hf:∀f∈b,f.2.1.length<2000000:=fun f hf=>by
  have:=qhr TFk.bulk hf
  rw [qwc,qeJ] at this
  omega
 exact ⟨⟨by omega,by simp only; omega,by simp only; omega,by simp only; omega,fun t h=>(ht t h).c,fun t h=>(ht t h).k,hf,fun t h=>(ht t h).nm,fun t h=>(ht t h).cn⟩,by omega⟩
theorem tabC_inj {a b:qs} (h:quK a=quK b):a=b:=(qnv (r:=[]) (s:=[]) (by rw [List.append_nil,List.append_nil]; exact h)).1
theorem qyy {a b:Nat} (h:a+b≤1048576):a * (67+b)≤1000000000000:=by
 rcases Nat.le_total a 524288 with h1|h1
 ·have:=Nat.mul_le_mul h1 (show 67+b≤67+1048576 by omega)
  omega
 ·have:=Nat.mul_le_mul (show a≤1048576 by omega) (show 67+b≤67+524288 by omega)
  omega
theorem qww {M:Nat} :(r:qaa)→(∀v∈r,(qkQ v).length≤M)→((r.map qkQ).flatten).length≤r.length * M
 |[],_=>by simp
 |v::r,h=>by
  have h1:=h v List.mem_cons_self
  have h2:=qww r fun u hu=>h u (List.mem_cons_of_mem _ hu)
  simp only [List.map_cons,List.flatten_cons,List.length_append,List.length_cons,Nat.add_mul,Nat.one_mul] at h2⊢
  omega
theorem qjN {r:qaa} {a b:Nat} (ha:r.length≤a) (hab:a+b≤1048576) (h:∀v∈r,qjx.good v∧v.2.2.1.length≤b):(qdD r).length≤1099511627776:=by
 have h1:=qww (M:=67+b) r fun v hv=>by
  obtain ⟨⟨g1,g2,g3,_⟩,g4⟩:=h v hv
  have:=qeB (v:=v) ⟨g1,g2,g3⟩
  omega
 have h2:=Nat.mul_le_mul_right (67+b) ha
 have h3:=qyy hab
 have h4:=qcJ (n:=r.length) (by unfold maxLen; omega)
 unfold qdD
 rw [List.length_append]
 omega
theorem qlM:(r:qaa)→∀v∈r,v.2.2.1.length+r.length≤(r.map qjx.bulk).sum
 |[],v,hv=>by cases hv
 |u::r,v,hv=>by
  have hu:qjx.bulk u=1+(1+(u.2.2.1.length+1+1)):=rfl
  have hr:r.length≤(r.map qjx.bulk).sum:=by
   have:=qjF qjx r
   have e:(Ty.slice qjx).bulk r=(r.map qjx.bulk).sum+1:=rfl
   omega
  simp only [List.map_cons,List.sum_cons,List.length_cons]
  rcases List.mem_cons.1 hv with rfl|hv
  ·omega
  ·have:=qlM r v hv
   omega
theorem qrE:(rows:List qaa)→∀r∈rows,(r.map qjx.bulk).sum+1≤(rows.map (Ty.slice qjx).bulk).sum
 |[],r,hr=>by cases hr
 |q::rows,r,hr=>by
  simp only [List.map_cons,List.sum_cons]
  have e:(Ty.slice qjx).bulk q=(q.map qjx.bulk).sum+1:=rfl
  rcases List.mem_cons.1 hr with rfl|hr
  ·omega
  ·have:=qrE rows r hr
   omega
abbrev qmS:Ty:= .pair .str (.pair (.slice (.slice qjx)) .unit)
theorem qs0 (r:qb2):qmS.bulk r=r.1.length+1+((r.2.1.map (Ty.slice qjx).bulk).sum+1+1):=by
 obtain ⟨r1,r2,⟨⟩⟩:=r; rfl
theorem qrs (row:qaa) (i:Int):qox row i∈row∨qox row i=zV:=by
 unfold qox
 split
 ·exact .inl (List.getElem_mem _)
 ·exact .inr rfl
structure RIn (b:Nat) (rels:List qb2):Prop where
 good:∀r∈rels,∀row∈r.2.1,∀v∈row,qjx.good v
 bulk:(rels.map qmS.bulk).sum≤b
theorem qv6 {rels:List qb2} {b:Nat} (hg:(Ty.slice qmS).good rels) (hb:(Ty.slice qmS).bulk rels≤b+1):RIn b rels:=by
 have e:(Ty.slice qmS).bulk rels=(rels.map qmS.bulk).sum+1:=rfl
 refine ⟨fun r hr row hrow v hv=> ?_,by omega⟩
 have h:=hg.2 r hr
 obtain ⟨r1,r2,⟨⟩⟩:=r
 exact (h.2.1.2 row hrow).2 v hv
theorem rlen (r:qaa):r.length≤(r.map qjx.bulk).sum:=by
 have:=qjF qjx r
 have e:(Ty.slice qjx).bulk r=(r.map qjx.bulk).sum+1:=rfl
 omega
theorem RIn.rows {b:Nat} {rels:List qb2} (h:RIn b rels) {r:qb2} (hr:r∈rels):r.2.1.length≤b∧∀row∈r.2.1,(row.map qjx.bulk).sum≤b:=by
 have h1:=qhr qmS.bulk hr
 have h2:=h.bulk
 rw [qs0] at h1
 refine ⟨?_,fun row hrow=> ?_⟩
 ·have:=qjF (.slice qjx) r.2.1
  have e:(Ty.slice (.slice qjx)).bulk r.2.1=(r.2.1.map (Ty.slice qjx).bulk).sum+1:=rfl
  omega
 ·have:=qrE r.2.1 row hrow
  omega
theorem qn0 {b:Nat} {rels:List qb2} (h:RIn b rels) (hb:b≤1048576):qf8 2000000 rels:=by
 refine ⟨?_,fun r hr=> ?_,fun r hr row hrow=> ?_,fun r hr row hrow=> ?_⟩
 ·have h1:=qjk qmS.bulk rels fun x _=>qex qmS x
  have:=h.bulk
  omega
 ·have:=(h.rows hr).1; omega
 ·have:=(h.rows hr).2 row hrow
  have:=rlen row
  omega
 ·have h2:=(h.rows hr).2 row hrow
  have h3:=rlen row
  exact qjN (a:=row.length) (b:=1048576 - row.length) (Nat.le_refl _) (by omega) fun v hv=>⟨h.good r hr row hrow v hv,by have:=qlM row v hv; omega⟩
theorem qyj {b:Nat} {rels:List qb2} (h:RIn b rels) {cs:List Int} {a:Nat} (hc:cs.length≤a) (hab:a+b≤1048576) {r:qb2} (hr:r∈rels) {row:qaa} (hrow:row∈r.2.1):(qdD (qad cs row)).length≤1099511627776:=by
 have h2:=(h.rows hr).2 row hrow
 refine qjN (a:=a) (b:=b) (by rw [qeA]; exact hc) hab fun v hv=> ?_
 obtain ⟨i,_,rfl⟩:=List.mem_map.1 hv
 rcases qrs row i with hm|hm
 ·exact ⟨h.good r hr row hrow _ hm,by have:=qlM row _ hm; omega⟩
 ·rw [hm]; exact ⟨⟨qdd,qdd,Nat.zero_le _,trivial⟩,Nat.zero_le _⟩
theorem qoL {s:qe} {rels:List qb2} {b:Nat} (h:RIn b rels) (hb:qwL.bulk s+b≤1048576):qx8 s rels:=by
 obtain ⟨x,y,z,⟨⟩⟩:=s
 rw [qlB] at hb
 refine ⟨fun r hr row hrow t ht=>qyj h (a:=qps.bulk t) ?_ ?_ hr hrow,fun r hr row hrow f hf=>qyj h (a:=TFk.bulk f) ?_ ?_ hr hrow⟩
 ·rw [qpU,qeJ]; omega
 ·have:=qhr qps.bulk ht; simp only at this; omega
 ·rw [qwc,qeJ]; omega
 ·have:=qhr TFk.bulk hf; simp only at this; omega
end
end Go.Proofs.YtfcdfdnlgfebmaaGreatDoor
namespace Go.Proofs.YtfcdfdnlgfebmaaGreatDoor
open Go.Vi
noncomputable section
abbrev qcL:Type:=Int×(List UInt8×(qaa×(qaa×Unit)))
def qyl (t:qs) (key:qaa) (i:Nat):Option Int:=match key[i]? with
 |none=>none
 |some v=>if qr1 v≠0 then some (qr1 v) else if v.1≠(qi t.2.1 (qi t.2.2.1 (i:Int) 0) qlA).2.1 then some 7 else none
def vKey (t:qs) (key:qaa):Int:=if key.length≠t.2.2.1.length then 3 else match qac (qyl t key) key.length with
 |some e=>e
 |none=>0
def qwI (c:qcL):Bool:=((decide (c.1=1)&&decide (0<c.2.2.1.length))||(decide (c.1=2)&&decide (0<c.2.2.2.1.length)))||(!decide (c.1=1)&& !decide (c.1=2))
def qkT (s:qe) (c:qcL):Int:=if qwI c=true then 3 else match qgF s c.2.1 with
 |none=>4
 |some t=>if c.1=1 then qtu t c.2.2.2.1 else vKey t c.2.2.1
theorem qvo {α:Type} (xs:List α):ltI 0 (qn xs)=decide (0<xs.length):=qmG xs 0
theorem qu2 (N:Nat) (t:qs) (key:qaa) (hk:∀k∈t.2.2.1,0≤k∧k<(t.2.1.length:Int)) (hN:key.length<N) (hB:N≤1099511627776):qcq N (t,(key,()))=some ((vKey t key,()),()):=by
 simp only [qcq,qG,qmT,qaJ]
 unfold vKey
 by_cases h0:key.length≠t.2.2.1.length
 ·rw [if_pos h0,if_pos h0]
 rw [if_neg h0,if_neg h0]
 have hl:key.length=t.2.2.1.length:=by omega
 refine (qaj (S:=Int×Unit) (fun i=>((i:Int),())) key.length (qyl t key) (fun e=>some ((e,()),())) (some ((0,()),())) rfl (fun i hi _ ih=> ?_) (fun _ ih=> ?_) hN).trans ?_
 ·have hip:i<t.2.2.1.length:=by omega
  obtain ⟨c1,c2⟩:=hk _ (List.getElem_mem hip)
  have b3:inB (t.2.2.1[i]) (qn t.2.1)=true:=by rw [qcZ,qj]; simp; omega
  simp only [qaW hi,qK hi,cond_true,qF _ hi,qK hip,qF _ hip,b3,qnO,qf,qh,Bool.and_self,qQ (show i<4611686018427387904 by omega),qyl,List.getElem?_eq_getElem hi,qaG,←decide_not,qaJ,qlA]
  by_cases h1:qr1 key[i]=0
  ·simp only [h1,not_true_eq_false,ne_eq,if_false]
   split <;> rfl
  ·simp only [h1,not_false_eq_true,ne_eq,if_true]
 ·simp only
  rw [qD (qax (Nat.lt_irrefl _))]
 ·cases qac (qyl t key) key.length <;> rfl
theorem qnF (N:Nat) (s:qe) (c:qcL) (hs:qfC N s) (hk:qrx s) (h1:c.2.2.1.length<N) (h2:c.2.2.2.1.length<N):qb7 N (s,(c,()))=some ((qkT s c,()),()):=by
 have hn:=hs.sm.n
 have e0:((((eqI c.1 1)&&(ltI 0 (qn c.2.2.1)))||((eqI c.1 2)&&(ltI 0 (qn c.2.2.2.1))))||((neI c.1 1)&&(neI c.1 2)))=qwI c:=by
  simp only [qbC,qaG,qvo,qwI]
 simp only [qb7,qG,e0,qfv N s c.2.1 hs.sm.t hn,qf,qh,cond_true]
 unfold qkT
 by_cases hb:qwI c=true
 ·rw [if_pos hb,hb]; rfl
 rw [if_neg hb,qD (by simpa using hb)]
 rcases qfF s c.2.1 with ⟨g1,g2⟩|⟨i,t,g1,g2,hi,g3⟩
 ·simp only [g1,g2,Option.isSome_none,Bool.not_false,cond_true]
 ·have hm:=qdb g2
  simp only [g1,g2,Option.isSome_some,Option.getD_some,Bool.not_true,cond_false,qK hi,g3,qri N t _ h2 hn,qu2 N t _ (hk t hm) h1 hn,qf,qh,Bool.and_self,cond_true,qbC,qaJ]
  split <;> rfl
theorem qn7 (N:Nat) (s:qe) (c:qcL) (hs:qfC N s) (hk:qrx s) (h1:c.2.2.1.length<N) (h2:c.2.2.2.1.length<N):qaE N (s,(c,()))=some ((qkT s c,()),()):=by
 have hn:=hs.sm.n
 have e0:((((neI c.1 1)&&(neI c.1 2))||((eqI c.1 1)&&(ltI 0 (qn c.2.2.1))))||((eqI c.1 2)&&(ltI 0 (qn c.2.2.2.1))))=qwI c:=by
  simp only [qbC,qaG,qvo,qwI]
  rw [Bool.or_assoc,Bool.or_comm]
 simp only [qaE,qG,e0,qgl N s c.2.1 hs.sm.t hn,qf,qh,cond_true]
 unfold qkT
 by_cases hb:qwI c=true
 ·rw [if_pos hb,hb]; rfl
 rw [if_neg hb,qD (by simpa using hb)]
 rcases qfF s c.2.1 with ⟨g1,g2⟩|⟨i,t,g1,g2,hi,g3⟩
 ·simp only [g2,qjK,Bool.not_false,cond_true]
 ·have hm:=qdb g2
  simp only [g2,qf,qh,Bool.not_true,cond_false,qqW N t _ h2 hn,Bool.and_self,cond_true,qbC,qaJ,Bool.true_and]
  by_cases hq:c.1=1
  ·rw [if_pos hq,if_pos hq]
  rw [if_neg hq,if_neg hq]
  simp only [qmT,qaJ]
  unfold vKey
  generalize c.2.2.1=key at *
  by_cases h0:key.length≠t.2.2.1.length
  ·rw [if_pos h0,if_pos h0]
  rw [if_neg h0,if_neg h0]
  have hl:key.length=t.2.2.1.length:=by omega
  refine (qaj (S:=Int×Unit) (fun i=>((i:Int),())) key.length (qyl t key) (fun e=>some ((e,()),())) (some ((0,()),())) rfl (fun i hi _ ih=> ?_) (fun _ ih=> ?_) h1).trans ?_
  ·have hip:i<t.2.2.1.length:=by omega
   obtain ⟨c1,c2⟩:=hk t hm _ (List.getElem_mem hip)
   have b3:inB (t.2.2.1[i]) (qn t.2.1)=true:=by rw [qcZ,qj]; simp; omega
   simp only [qaW hi,qK hi,cond_true,qF _ hi,qK hip,qF _ hip,b3,qn2,qf,qh,Bool.and_self,qQ (show i<4611686018427387904 by omega),qyl,List.getElem?_eq_getElem hi,qaG,←decide_not,qaJ,qlA]
   by_cases h1:qr1 key[i]=0
   ·simp only [h1,not_true_eq_false,ne_eq,if_false]
    split <;> rfl
   ·simp only [h1,not_false_eq_true,ne_eq,if_true]
  ·simp only
   rw [qD (qax (Nat.lt_irrefl _))]
  ·cases qac (qyl t key) key.length <;> rfl
def qmJ (t:qs) (c:qcL):qaa:=if c.1=1 then qad t.2.2.1 c.2.2.2.1 else c.2.2.1
def qx5 (s:qe) (c:qcL):qaa:=qmJ (qeT s c.2.1) c
theorem qsm (N:Nat) (s:qe) (c:qcL) (hs:qfC N s) {t:qs} (ht:qgF s c.2.1=some t):qaZ N (s,(c,()))=some ((qx5 s c,()),()):=by
 have hn:=hs.sm.n
 have e:qeT s c.2.1=t:=by unfold qeT; rw [ht]; rfl
 simp only [qaZ,qG,qgl N s c.2.1 hs.sm.t hn,ht,qf,qh,cond_true,qjJ N t _ (hs.tab (qdb ht)).k hn,Bool.and_true,Bool.and_self,qbC,qaJ,qx5,qmJ,e]
 split <;> rfl
structure qs4 (N:Nat) (s:qe) (cs:List qcL):Prop where
 n:2 * cs.length+100<N
 key:∀c∈cs,c.2.2.1.length<N
 row:∀c∈cs,c.2.2.2.1.length<N
 ek:∀c∈cs,(qdD c.2.2.1).length≤1099511627776
 er:∀c∈cs,(qdD c.2.2.2.1).length≤1099511627776
 et:∀c∈cs,∀t∈s.1,(qdD (qmJ t c)).length≤1099511627776
 nm:∀c∈cs,c.2.1.length≤1048576
def chgE (s:qe) (cs:List qcL) (i:Nat):Option Int:=match cs[i]? with
 |none=>none
 |some c=>if qkT s c≠0 then some (qkT s c) else none
def vComp (s:qe) (cs:List qcL):Int:=if qmv s≠0 then qmv s else match qac (chgE s cs) cs.length with
 |some e=>e
 |none=>0
def ql0 (s:qe) (a b:qcL):Bool:=decide (a.2.1=b.2.1)&&decide (qx5 s a=qx5 s b)
def qo2 (s:qe) (cs:List qcL):Nat→List qcL
 |0=>[]
 |n+1=>qo2 s cs n++(match cs[n]? with
  |none=>[]
  |some c=>if (cs.drop (n+1)).any (fun l=>ql0 s l c)=true then [] else [c])
theorem keepP_succ {s:qe} {cs:List qcL} {i:Nat} (hi:i<cs.length):qo2 s cs (i+1)=qo2 s cs i++(if (cs.drop (i+1)).any (fun l=>ql0 s l cs[i])=true then [] else [cs[i]]):=by
 simp only [qo2,List.getElem?_eq_getElem hi]
theorem qvI (s:qe) (cs:List qcL):(n:Nat)→(qo2 s cs n).length≤n
 |0=>by simp [qo2]
 |n+1=>by
  have ih:=qvI s cs n
  simp only [qo2,List.length_append]
  split
  ·simp; omega
  ·split
   ·simp; omega
   ·simp; omega
theorem qwt (s:qe) (cs:List qcL):(n:Nat)→∀c∈qo2 s cs n,c∈cs
 |0,c,h=>by simp [qo2] at h
 |n+1,c,h=>by
  simp only [qo2,List.mem_append] at h
  rcases h with h|h
  ·exact qwt s cs n c h
  ·split at h
   ·cases h
   ·rename_i x hx
    obtain ⟨hi,rfl⟩:=List.getElem?_eq_some_iff.1 hx
    split at h
    ·cases h
    ·rw [List.mem_singleton.1 h]; exact List.getElem_mem hi
theorem qlq {s:qe} {c:qcL} (h:qkT s c=0):∃(i:Nat) (t:qs) (hi:i<s.1.length),qke (qdh c.2.1) s.1=some i∧qgF s c.2.1=some t∧s.1[i]=t∧t.1=c.2.1∧qeT s c.2.1=t:=by
 rcases qfF s c.2.1 with ⟨g1,g2⟩|⟨i,t,g1,g2,hi,g3⟩
 ·unfold qkT at h
  rw [g2] at h
  split at h <;> cases h
 ·have e:s.1[i]=t:=by have:=g3 qyt; rwa [qF _ hi] at this
  obtain ⟨hj,k1,_⟩:=qhZ g1
  refine ⟨i,t,hi,g1,g2,e,?_,by unfold qeT; rw [g2]; rfl⟩
  rw [←e]
  simpa [qdh] using k1
theorem tgt_len {N:Nat} {t:qs} {c:qcL} (hN:t.2.2.1.length<N) (h1:c.2.2.1.length<N):(qmJ t c).length<N:=by
 unfold qmJ
 split
 ·rw [qeA]; exact hN
 ·exact h1
abbrev zChg:qcL:=(0,(([]:List UInt8),(([]:qaa),(([]:qaa),()))))
theorem qvR (s:qe) (cs:List qcL):∀i e,chgE s cs i=some e→e≠0:=fun i e h=>by
 unfold chgE at h
 split at h
 ·cases h
 split at h
 ·rename_i hv; injection h with h; subst h; exact hv
 ·cases h
theorem comp_all {s:qe} {cs:List qcL} (h:vComp s cs=0):qmv s=0∧∀c∈cs,qkT s c=0:=by
 unfold vComp at h
 by_cases h0:qmv s≠0
 ·rw [if_pos h0] at h; exact absurd h h0
 rw [if_neg h0] at h
 obtain ⟨h1,_⟩:=qd6 (qvR s cs) h
 refine ⟨by omega,fun c hc=> ?_⟩
 obtain ⟨i,hi,rfl⟩:=List.getElem_of_mem hc
 have:=qaP h1 i hi
 simp only [chgE,List.getElem?_eq_getElem hi] at this
 split at this
 ·cases this
 ·rename_i hv; simpa using hv
theorem chg_first (s:qe) (cs:List qcL) {i:Nat} (hi:i<cs.length):chgE s cs i=if qkT s cs[i]≠0 then some (qkT s cs[i]) else none:=by
 simp only [chgE,List.getElem?_eq_getElem hi]
def idC (s:qe) (c:qcL):List UInt8:=c.2.1++[47]++qdD (qx5 s c)
theorem qrC:(a b x y:List UInt8)→(∀c∈a,c≠47)→(∀c∈b,c≠47)→a++[47]++x=b++[47]++y→a=b∧x=y
 |[],[],x,y,_,_,h=>⟨rfl,by simpa using h⟩
 |[],b::bs,x,y,_,hb,h=>by
  simp only [List.nil_append,List.cons_append,List.cons.injEq] at h
  exact absurd h.1.symm (hb b List.mem_cons_self)
 |a::ar,[],x,y,ha,_,h=>by
  simp only [List.nil_append,List.cons_append,List.cons.injEq] at h
  exact absurd h.1 (ha a List.mem_cons_self)
 |a::ar,b::bs,x,y,ha,hb,h=>by
  simp only [List.cons_append,List.cons.injEq] at h
  obtain ⟨h1,h2⟩:=qrC ar bs x y (fun c hc=>ha c (List.mem_cons_of_mem _ hc)) (fun c hc=>hb c (List.mem_cons_of_mem _ hc)) h.2
  exact ⟨by rw [h.1,h1],h2⟩
theorem qj2.nameOk {s:qe} (h:qj2 s) {t:qs} (ht:t∈s.1):nameOk t.1=true:=by
 obtain ⟨i,hi,rfl⟩:=List.getElem_of_mem ht
 have:=qaP h.tabs i hi
 simp only [qtf,List.getElem?_eq_getElem hi] at this
 split at this
 ·cases this
 rename_i hv
 have hv:quC s.1[i]=0:=by simpa using hv
 unfold quC at hv
 split at hv
 ·cases hv
 ·rename_i hq; simpa using hq
theorem qvY {n:List UInt8} (h:nameOk n=true):∀c∈n,c≠47:=fun c hc e=>by
 subst e
 unfold nameOk at h
 split at h
 ·cases h
 ·rename_i c0 r
  simp only [Bool.and_eq_true,List.all_eq_true] at h
  rcases List.mem_cons.1 hc with rfl|hc
  ·have:=h.2.1; revert this; decide
  ·have:=h.2.2 _ hc; revert this; decide
theorem qyi {s:qe} (hv:qj2 s) {a b:qcL} (ha:qkT s a=0) (hb:qkT s b=0):idC s a=idC s b↔ql0 s a b=true:=by
 obtain ⟨i,t,hi,a1,a2,a3,a4,a5⟩:=qlq ha
 obtain ⟨k,u,hk,b1,b2,b3,b4,b5⟩:=qlq hb
 have na:=qvY (hv.nameOk (qdb a2))
 have nb:=qvY (hv.nameOk (qdb b2))
 rw [a4] at na
 rw [b4] at nb
 unfold idC ql0
 simp only [Bool.and_eq_true,decide_eq_true_eq]
 constructor
 ·intro h
  obtain ⟨h1,h2⟩:=qrC _ _ _ _ na nb h
  exact ⟨h1,qnm h2⟩
 ·rintro ⟨h1,h2⟩
  rw [h1,h2]
def putM (ks:List (List UInt8)):Nat→List (List UInt8×Int)
 |0=>[]
 |n+1=>match ks[n]? with
  |none=>putM ks n
  |some k=>qlT (putM ks n) k (n:Int)
def qst (ks:List (List UInt8)) (k:List UInt8):Nat→Int
 |0=>0
 |n+1=>if ks[n]? =some k then (n:Int) else qst ks k n
theorem qor (ks:List (List UInt8)) (k:List UInt8):(n:Nat)→qge (putM ks n) k 0=qst ks k n
 |0=>by simp only [putM,qst,qp4]
 |n+1=>by
  simp only [putM,qst]
  cases h:ks[n]? with
  |none=>simp only [qor ks k n]; rw [if_neg (by simp)]
  |some k'=>
   simp only [qhJ,qor ks k n]
   by_cases hq:k'=k
   ·rw [if_pos hq,if_pos (by rw [hq])]
   ·rw [if_neg hq,if_neg (fun e=>hq (Option.some.inj e))]
theorem qqO (ks:List (List UInt8)) {i:Nat} {k:List UInt8} (hi:ks[i]? =some k):(m:Nat)→(qst ks k (i+1+m)=(i:Int)↔∀j,i<j→j<i+1+m→ks[j]? ≠some k)
 |0=>by
  simp only [Nat.add_zero,qst,hi,if_true,true_iff]
  intro j h1 h2; omega
 |m+1=>by
  have ih:=qqO ks hi m
  rw [show i+1+(m+1)=(i+1+m)+1 by omega]
  simp only [qst]
  by_cases hq:ks[i+1+m]? =some k
  ·rw [if_pos hq]
   constructor
   ·intro h; omega
   ·intro h; exact absurd hq (h _ (by omega) (by omega))
  ·rw [if_neg hq,ih]
   constructor
   ·intro h j h1 h2
    by_cases hj:j=i+1+m
    ·rw [hj]; exact hq
    ·exact h j h1 (by omega)
   ·intro h j h1 h2
    exact h j h1 (by omega)
theorem last_keep {s:qe} {cs:List qcL} (hv:qj2 s) (hall:∀c∈cs,qkT s c=0) {i:Nat} (hi:i<cs.length):eqI (qge (putM (cs.map (idC s)) cs.length) (idC s cs[i]) 0) (i:Int)= !((cs.drop (i+1)).any (fun l=>ql0 s l cs[i])):=by
 have hg:(cs.map (idC s))[i]? =some (idC s cs[i]):=by simp [hi]
 obtain ⟨m,hm⟩:∃m,cs.length=i+1+m:=⟨cs.length - (i+1),by omega⟩
 have hl:=qqO (cs.map (idC s)) hg m
 rw [←hm] at hl
 rw [qor,qbC]
 cases ha:(cs.drop (i+1)).any (fun l=>ql0 s l cs[i]) with
 |false=>
  refine decide_eq_true (hl.2 fun j h1 h2 hq=> ?_)
  simp only [List.getElem?_map,List.getElem?_eq_getElem h2,Option.map_some,Option.some.injEq] at hq
  have hs:=(qyi hv (hall _ (List.getElem_mem h2)) (hall _ (List.getElem_mem hi))).1 hq
  rw [List.any_eq_false] at ha
  refine ha _ ?_ hs
  rw [List.mem_iff_getElem]
  exact ⟨j - (i+1),by rw [List.length_drop]; omega,by rw [List.getElem_drop]; congr 1; omega⟩
 |true=>
  refine decide_eq_false fun hq=> ?_
  obtain ⟨l,hm2,hs⟩:=List.any_eq_true.1 ha
  obtain ⟨j,hj,rfl⟩:=List.getElem_of_mem hm2
  rw [List.length_drop] at hj
  rw [List.getElem_drop] at hs
  refine hl.1 hq (i+1+j) (by omega) (by omega) ?_
  simp only [List.getElem?_map,List.getElem?_eq_getElem (show i+1+j<cs.length by omega),Option.map_some,Option.some.injEq]
  exact (qyi hv (hall _ (List.getElem_mem _)) (hall _ (List.getElem_mem hi))).2 hs
end
end Go.Proofs.YtfcdfdnlgfebmaaGreatDoor
namespace Go.Proofs.YtfcdfdnlgfebmaaGreatDoor
open Go.Vi
noncomputable section
theorem qvG (N:Nat) (xs ys:List qcL) (φ:(qcL×(qcL×Unit))→Option (Bool×Unit)) (hφ:∀a∈xs,∀b∈ys,φ (a,(b,()))=some (decide (a=b),())) (hN:xs.length<N) (hB:N≤1099511627776):
  qaB N (xs,(ys,(φ,())))=some ((decide (xs=ys),()),()):=by
 simp only [qaB]
 by_cases hl:xs.length=ys.length
 ·rw [qD (by rw [qaG,qj,qj,hl]; simp)]
  refine qcR (S:=Int×Unit) (R:=(Bool×Unit)×Unit) (fun p=>xs.length - p.1.toNat) (fun p=>∃i:Nat,p.1=(i:Int)∧i≤xs.length∧xs.take i=ys.take i) (fun _=>((decide (xs=ys),()),())) ?_ N _ ⟨0,rfl,Nat.zero_le _,by simp⟩ (by simp; omega)
  rintro ih ⟨_,_⟩ ⟨i,rfl,h2,h3⟩ hih
  simp only [Int.toNat_natCast] at hih⊢
  by_cases hi:i<xs.length
  ·have hj:i<ys.length:=by omega
   rw [qC (qaW hi),qK hi,qK hj,qF _ hi,qF _ hj,hφ _ (List.getElem_mem hi) _ (List.getElem_mem hj)]
   simp only [qf,qh,cond_true]
   by_cases e:xs[i]=ys[i]
   ·rw [qD (by simp [e]),qQ (by omega),hih _ ⟨i+1,rfl,by omega,by rw [qba hi,qba hj,h3,e]⟩ (by simp only [Int.toNat_natCast]; omega)]
   ·rw [qC (by simp [e])]
    have:xs≠ys:=fun h=>e (by subst h; rfl)
    simp [this]
  ·rw [qD (qax hi)]
   have e1:i=xs.length:=by omega
   subst e1
   have:xs=ys:=by
    have:=h3
    rwa [List.take_length,hl,List.take_length] at this
   simp [this]
 ·rw [qC (by rw [qaG,qj,qj]; simp; omega)]
  have:xs≠ys:=fun h=>hl (by rw [h])
  simp [this]
theorem chg_eq (a b:qcL):(((decide (a.1=b.1)&&decide (a.2.1=b.2.1))&&decide (a.2.2.1=b.2.2.1))&&decide (a.2.2.2.1=b.2.2.2.1))=decide (a=b):=by
 obtain ⟨a1,a2,a3,a4,⟨⟩⟩:=a
 obtain ⟨b1,b2,b3,b4,⟨⟩⟩:=b
 rw [←Bool.decide_and,←Bool.decide_and,←Bool.decide_and]
 exact decide_eq_decide.2 (by simp only [Prod.mk.injEq,and_true]; constructor <;> simp+contextual)
theorem encEq (x y:qaa):decide (qdD x=qdD y)=decide (x=y):=by
 by_cases h:x=y
 ·simp [h]
 ·have:qdD x≠qdD y:=fun e=>h (qnm e)
  simp [h,this]
structure qsU (cs:List qcL):Prop where
 ek:∀c∈cs,(qdD c.2.2.1).length≤1099511627776
 er:∀c∈cs,(qdD c.2.2.2.1).length≤1099511627776
theorem eqChgs (N:Nat) (xs ys:List qcL) (hx:qsU xs) (hy:qsU ys) (hN:xs.length<N) (hB:N≤1099511627776):qaR N (xs,(ys,()))=some ((decide (xs=ys),()),()):=by
 have h:qaB N (xs,(ys,((fun x0=>(qf7 (fun y1:((Bool×Unit)×Unit)=>(y1.1.1,())) (qbt N (x0.1,(x0.2.1,()))))),())))=some ((decide (xs=ys),()),()):=
  qvG N xs ys _ (fun a ha b hb=>by
   simp only [qbt,qdk N _ (hx.ek a ha),qdk N _ (hx.er a ha),qdk N _ (hy.ek b hb),qdk N _ (hy.er b hb),qf,qh,Bool.or_true,Bool.and_self,cond_true,qck,Option.map_some,encEq,qch,qbC,chg_eq]) hN hB
 simp only [qaR,h,qf,qh,cond_true]
def confB (s:qe) (d c:qcL):Bool:=ql0 s d c&&(decide (d.1≠c.1)|| !decide (d.2.2.2.1=c.2.2.2.1))
def refB (s:qe) (c d:qcL):Bool:=ql0 s c d&& !decide (c=d)
theorem conf_ref {s:qe} {c d:qcL} (hc:qkT s c=0) (hd:qkT s d=0):confB s d c=refB s c d:=by
 have kinds:∀ {c:qcL},qkT s c=0→(c.1=1→c.2.2.1=[])∧(c.1=1∨c.1=2):=fun {c} h=>by
  unfold qkT at h
  split at h
  ·cases h
  rename_i hb
  have hb:qwI c=false:=by simpa using hb
  unfold qwI at hb
  simp only [Bool.or_eq_false_iff,Bool.and_eq_false_iff,decide_eq_false_iff_not,Bool.not_eq_false',decide_eq_true_eq] at hb
  refine ⟨fun h1=> ?_,?_⟩
  ·rcases hb.1.1 with h2|h2
   ·exact absurd h1 h2
   ·exact List.length_eq_zero_iff.1 (by omega)
  ·exact hb.2
 obtain ⟨c1,c2⟩:=kinds hc
 obtain ⟨d1,d2⟩:=kinds hd
 have sym:ql0 s d c=ql0 s c d:=by
  unfold ql0
  rw [decide_eq_decide.2 (eq_comm (a:=d.2.1)),decide_eq_decide.2 (eq_comm (a:=qx5 s d))]
 unfold confB refB
 rw [sym]
 cases hs:ql0 s c d with
 |false=>rfl
 |true=>
  unfold ql0 at hs
  simp only [Bool.and_eq_true,decide_eq_true_eq] at hs
  obtain ⟨h1,h2⟩:=hs
  have key:(¬d.1≠c.1∧d.2.2.2.1=c.2.2.2.1)↔c=d:=by
   constructor
   ·rintro ⟨k1,k2⟩
    have k1:d.1=c.1:=by omega
    have k3:c.2.2.1=d.2.2.1:=by
     rcases c2 with q|q
     ·rw [c1 q,d1 (by omega)]
     ·unfold qx5 qmJ at h2
      rw [if_neg (by omega),if_neg (by omega)] at h2
      exact h2
    obtain ⟨a1,a2,a3,a4,⟨⟩⟩:=c
    obtain ⟨b1,b2,b3,b4,⟨⟩⟩:=d
    simp only at k1 k2 k3 h1
    subst k1; subst k2; subst k3; subst h1
    rfl
   ·rintro rfl
    exact ⟨fun h=>h rfl,rfl⟩
  by_cases hq:c=d
  ·obtain ⟨k1,k2⟩:=key.2 hq
   simp [hq]
  ·have:¬(¬d.1≠c.1∧d.2.2.2.1=c.2.2.2.1):=fun h=>hq (key.1 h)
   simp only [hq,decide_false,Bool.not_false,Bool.and_true,Bool.true_and]
   by_cases k1:d.1=c.1
   ·have k2:¬d.2.2.2.1=c.2.2.2.1:=fun h=>this ⟨fun h2=>h2 k1,h⟩
    simp [k2]
   ·simp [k1]
abbrev qtk:Ty:= .pair (.int .i64) (.pair .str (.pair (.slice qjx) (.pair (.slice qjx) .unit)))
theorem qjS (c:qcL):qtk.bulk c=1+(c.2.1.length+1+((c.2.2.1.map qjx.bulk).sum+1+((c.2.2.2.1.map qjx.bulk).sum+1+1))):=by
 obtain ⟨c1,c2,c3,c4,⟨⟩⟩:=c; rfl
theorem qsQ {r:qaa} (hg:∀v∈r,qjx.good v) (hb:(r.map qjx.bulk).sum≤1048576):(qdD r).length≤1099511627776:=by
 have h3:=rlen r
 exact qjN (a:=r.length) (b:=1048576 - r.length) (Nat.le_refl _) (by omega) fun v hv=>⟨hg v hv,by have:=qlM r v hv; omega⟩
theorem qvp {s:qe} {cs:List qcL} (hg:(Ty.slice qtk).good cs) (hb:qwL.bulk s+(Ty.slice qtk).bulk cs≤1048577):qs4 5000000 s cs:=by
 have e:(Ty.slice qtk).bulk cs=(cs.map qtk.bulk).sum+1:=rfl
 have hl:=qjk qtk.bulk cs fun x _=>qex qtk x
 have hone:∀c∈cs,qtk.bulk c≤(cs.map qtk.bulk).sum:=fun c hc=>qhr qtk.bulk hc
 have good:∀c∈cs,(∀v∈c.2.2.1,qjx.good v)∧∀v∈c.2.2.2.1,qjx.good v:=fun c hc=>by
  have h:=hg.2 c hc
  obtain ⟨c1,c2,c3,c4,⟨⟩⟩:=c
  exact ⟨h.2.2.1.2,h.2.2.2.1.2⟩
 refine ⟨by omega,fun c hc=> ?_,fun c hc=> ?_,fun c hc=> ?_,fun c hc=> ?_,fun c hc t ht=> ?_,fun c hc=> ?_⟩
 ·have:=hone c hc; rw [qjS] at this; have:=rlen c.2.2.1; omega
 ·have:=hone c hc; rw [qjS] at this; have:=rlen c.2.2.2.1; omega
 ·have:=hone c hc; rw [qjS] at this; exact qsQ (good c hc).1 (by omega)
 ·have:=hone c hc; rw [qjS] at this; exact qsQ (good c hc).2 (by omega)
 ·have h1:=hone c hc
  rw [qjS] at h1
  unfold qmJ
  split
  ·have h2:qps.bulk t≤qwL.bulk s:=by
    obtain ⟨x,y,z,⟨⟩⟩:=s
    rw [qlB]
    have:=qhr qps.bulk ht
    simp only at this
    omega
   refine qjN (a:=qps.bulk t) (b:=(c.2.2.2.1.map qjx.bulk).sum) (by rw [qeA,qpU,qeJ]; omega) (by omega) fun v hv=> ?_
   obtain ⟨i,_,rfl⟩:=List.mem_map.1 hv
   rcases qrs c.2.2.2.1 i with hm|hm
   ·exact ⟨(good c hc).2 _ hm,by have:=qlM c.2.2.2.1 _ hm; omega⟩
   ·rw [hm]; exact ⟨⟨qdd,qdd,Nat.zero_le _,trivial⟩,Nat.zero_le _⟩
  ·exact qsQ (good c hc).1 (by omega)
 ·have:=hone c hc; rw [qjS] at this; omega
theorem qfC.mono {N M:Nat} {s:qe} (h:qfC N s) (hNM:N≤M) (hM:M≤1099511627776):qfC M s:=by
 obtain ⟨⟨_,t,f,c,tc,tk,fc,tn,cn⟩,m⟩:=h
 exact ⟨⟨hM,by omega,by omega,by omega,fun x hx=>Nat.lt_of_lt_of_le (tc x hx) hNM,fun x hx=>Nat.lt_of_lt_of_le (tk x hx) hNM,fun x hx=>Nat.lt_of_lt_of_le (fc x hx) hNM,fun x hx=>Nat.lt_of_lt_of_le (tn x hx) hNM,fun x hx y hy=>Nat.lt_of_lt_of_le (cn x hx y hy) hNM⟩,by omega⟩
theorem qs4.enc {N:Nat} {s:qe} {cs xs:List qcL} (h:qs4 N s cs) (hx:∀c∈xs,c∈cs):qsU xs:=
 ⟨fun c hc=>h.ek c (hx c hc),fun c hc=>h.er c (hx c hc)⟩
end
end Go.Proofs.YtfcdfdnlgfebmaaGreatDoor
namespace Go.Proofs.YtfcdfdnlgfebmaaGreatDoor
open Go.Vi
noncomputable section
theorem qpG (N:Nat) (t:qs) (rows:List qaa) (key:qaa) (hN:t.2.2.1.length<N) (hN2:rows.length<N) (hB:N≤1099511627776):
  q7 N (t,(rows,(key,())))=some ((((qci (fun r=>qH (qad t.2.2.1 r) key) rows).1:Int),((qci (fun r=>qH (qad t.2.2.1 r) key) rows).2,())),()):=by
 have hk:∀r,qL N (t,(r,()))=some ((qad t.2.2.1 r,()),()):=fun r=>qjJ N t r hN hB
 have hc:∀r,qJ N (qad t.2.2.1 r,(key,()))=some ((qH (qad t.2.2.1 r) key,()),()):=fun r=>qeK N _ _ (by rw [qeA]; exact hN) hB
 have h1:∀r:qaa,qbW N (r,(t,(key,())))=some ((decide (0≤qH (qad t.2.2.1 r) key),()),()):=fun r=>by
  simp only [qbW,hk,hc,qf,qh,cond_true,Bool.and_self,qfZ]
 have h2:=qrG N rows (fun r=>qH (qad t.2.2.1 r) key) (fun x0=>(qf7 (fun y1=>(y1.1.1,())) (qbW N (x0.1,(t,(key,())))))) (fun r=>by rw [h1 r,qck]; rfl) hN2 hB
 simp only [q7,qG]
 rw [h2]
 obtain ⟨s1,s2,s3⟩:=qh3 (fun r=>qH (qad t.2.2.1 r) key) rows
 generalize qci (fun r=>qH (qad t.2.2.1 r) key) rows=q at *
 obtain ⟨i,b⟩:=q
 simp only at s1 s2 s3
 simp only [qf,qh,cond_true]
 by_cases hi:i<rows.length
 ·obtain ⟨s4,s5⟩:=s3 rows[i] (List.getElem?_eq_getElem hi)
  rw [if_pos hi,qD (by rw [qbd]; simp),qK hi,qF _ hi,hk]
  simp only [qf,qh,Bool.and_self,hc,cond_true,qbC,s5]
 ·have:i=rows.length:=by omega
  rw [if_neg hi,qC (by rw [qbd]; rfl),s2 this,qj,this]
theorem quw (N:Nat) (n:Nat) (hn:n≤1000000000):qcg N ((),((n:Int),()))=some (([],()),()):=by
 have e1:qT .i64 (n:Int) (qT .i64 0 (qn ([]:List qaa)))=(n:Int):=by
  rw [qj,List.length_nil,qam (x:=0) (by omega) (by omega),qam (by omega) (by omega)]
  omega
 have e2:ltI (n:Int) 0=false:=by rw [qbl]; exact decide_eq_false (by omega)
 have e4:qar (qqy (α:=qaa) (n:Int) ([]:qaa)) 0 (qn ([]:List qaa))=[]:=by
  rw [qcj,qj]; simp
 have e5:inS 0 0 0=true:=by rw [qjj]; simp
 have e6:qwO (n:Int) 24=true:=by rw [qnp]; simp; omega
 have e7:inS 0 (qn ([]:List qaa)) (qn (qqy (α:=qaa) (n:Int) ([]:qaa)))=true:=by rw [qjj,qj,qj]; simp
 simp only [qcg,qG,e1,e2,e4,e5,e6,e7,cond_false]
 cases ltI 0 (n:Int) <;> rfl
theorem qrQ (N:Nat) (a b:List qaa) (hN:100<N) (h:a.length+b.length≤1000000000):qaC N ([a,b],())=some ((a++b,()),()):=by
 obtain ⟨M,rfl⟩:∃M,N=M+3:=⟨N - 3,by omega⟩
 have l0:ltI 0 (qn [a,b])=true:=by rw [qbl,qj]; simp
 have l1:ltI 1 (qn [a,b])=true:=by rw [qbl,qj]; simp
 have l2:ltI 2 (qn [a,b])=false:=by rw [qbl,qj]; simp
 have b0:inB 0 (qn [a,b])=true:=by rw [qcZ,qj]; simp
 have b1:inB 1 (qn [a,b])=true:=by rw [qcZ,qj]; simp
 have g0:qi [a,b] 0 []=a:=by rw [qdf]; rfl
 have g1:qi [a,b] 1 []=b:=by rw [qdf]; rfl
 have a0:qS .i64 0 1=1:=qQ (i:=0) (by omega)
 have a1:qS .i64 1 1=2:=qQ (i:=1) (by omega)
 have s0:qS .i64 0 (qn a)=((a.length:Nat):Int):=by rw [qj,qat (by omega) (by omega)]; omega
 have s1:qS .i64 ((a.length:Nat):Int) (qn b)=((a.length+b.length:Nat):Int):=by rw [qj,qat (by omega) (by omega)]; omega
 have n0:ltI ((a.length:Nat):Int) 0=false:=by rw [qbl]; exact decide_eq_false (by omega)
 have n1:ltI ((a.length+b.length:Nat):Int) 0=false:=by rw [qbl]; exact decide_eq_false (by omega)
 have r0:qcQ (qn ([]:List qaa)) (qn a) 24=true:=qdZ (by simp <;> omega)
 have r1:qcQ (qn a) (qn b) 24=true:=qdZ (by omega)
 simp only [qaC,qG]
 rw [qaN]
 simp only [l0,b0,g0,s0,n0,a0,cond_true,cond_false]
 rw [qaN]
 simp only [l1,b1,g1,s1,n1,a1,cond_true,cond_false]
 rw [qaN]
 simp only [l2,cond_false,quw _ _ h,qf,qh,cond_true]
 rw [qaN]
 simp only [l0,b0,g0,r0,a0,cond_true,qbo,List.nil_append]
 rw [qaN]
 simp only [l1,b1,g1,r1,a1,cond_true,qbo]
 rw [qaN]
 simp only [l2,cond_false]
theorem qxK:qn ([]:List qaa)=0:=by rw [qj]; rfl
theorem qrp (a:qaa) (ar:List qaa):eqI (qn (a::ar)) 0=false:=by rw [qbC,qj]; exact decide_eq_false (by simp <;> omega)
theorem qsT:eqI (qn ([]:List qaa)) 0=true:=by rw [qxK]; exact eqT rfl
theorem qom (a d:qaa) (ar:List qaa):qi (a::ar) 0 d=a:=by rw [qdf]; rfl
theorem qpW (a:qaa) (ar:List qaa):inB 0 (qn (a::ar))=true:=by rw [qcZ,qj]; simp
theorem qjo (a:qaa) (ar:List qaa):inS 1 (qn (a::ar)) (qn (a::ar))=true:=by rw [qjj,qj]; simp; omega
theorem qgu (a:qaa) (ar:List qaa):qar (a::ar) 1 (qn (a::ar))=ar:=by rw [qcj,qj]; simp
theorem qr9 (N:Nat) (t:qs) (xa xb:List qaa) (hk:t.2.2.1.length<N) (hN:xa.length+xb.length<N) (hB:N≤1000000000) (ha:∀r∈xa,r.length<N) (hb:∀r∈xb,r.length<N):
  qcu N (t,(xa,(xb,())))=some ((qeG t.1 t.2.2.1 xa xb,()),()):=by
 have hB':N≤1099511627776:=by omega
 have hD:=qfM t.1 t.2.2.1 _ xa xb (Nat.le_refl _)
 have kq:∀r,qz N (t,(r,()))=some ((qad t.2.2.1 r,()),()):=fun r=>qtw N t r hk hB'
 have cq:∀r q,qM N (qad t.2.2.1 r,(q,()))=some ((qH (qad t.2.2.1 r) q,()),()):=fun r q=>qhd N _ _ (by rw [qeA]; exact hk) hB'
 simp only [qcu]
 refine qas (S:=List qaa×(List qaa×(List qcL×Unit))) (fun p=>p.1.length+p.2.1.length) (fun p=>p.2.2.1++qeG t.1 t.2.2.1 p.1 p.2.1=qeG t.1 t.2.2.1 xa xb∧p.1.length≤xa.length∧p.2.1.length≤xb.length∧(∀r∈p.1,r.length<N)∧∀r∈p.2.1,r.length<N)
  (fun r=>r=some ((qeG t.1 t.2.2.1 xa xb,()),())) ?_ N _ ⟨rfl,Nat.le_refl _,Nat.le_refl _,ha,hb⟩ hN
 rintro ih ⟨p,q,out,⟨⟩⟩ ⟨h1,h2,h3,h4,h5⟩ hih
 simp only at h1 h2 h3 h4 h5 hih⊢
 have hol:out.length≤xa.length+xb.length:=by
  have:=congrArg List.length h1
  rw [List.length_append] at this
  omega
 have rm:∀c:qcL,qcQ (qn out) (qn ([c]:List qcL)) 72=true:=fun c=>qdZ (by simp <;> omega)
 have hsum:qS .i64 (qn p) (qn q)=((p.length+q.length:Nat):Int):=by rw [qj,qj,qat (by omega) (by omega)]; omega
 have cl:∀r∈q,qN N (r,())=some ((r,()),()):=fun r hr=>qoE N r (by have:=h5 r hr; omega)
 have n1:ltI (-1:Int) 0=true:=ltT (by omega)
 have n2:ltI (1:Int) 0=false:=ltF (by omega)
 have n3:ltI (0:Int) 1=true:=ltT (by omega)
 cases p with
 |nil=>
  cases q with
  |nil=>
   rw [qlp,List.append_nil] at h1
   simp only [hsum,List.length_nil]
   rw [qD (ltF (by simp)),h1]
  |cons b bs=>
   rw [qir] at h1
   have hlt:ltI 0 (((([]:List qaa).length+(b::bs).length:Nat)):Int)=true:=ltT (by simp <;> omega)
   simp only [hsum,hlt,cond_true,cond_false,qsT,Bool.true_or,n2,n3,qpW,qom,cl b List.mem_cons_self,qf,qh,rm,qjo,qgu,Bool.and_self,qbo]
   refine hih _ ⟨?_,by simp,by simp at h3⊢; omega,fun r hr=>(by cases hr),fun r hr=>h5 r (List.mem_cons_of_mem _ hr)⟩ (by simp)
   simpa [qqA] using h1
 |cons a ar=>
  cases q with
  |nil=>
   rw [qjL] at h1
   have hlt:ltI 0 ((((a::ar).length+([]:List qaa).length:Nat)):Int)=true:=ltT (by simp <;> omega)
   simp only [hsum,hlt,cond_true,cond_false,qsT,qrp,Bool.true_or,Bool.false_or,n1,qpW,qom,kq,qf,qh,rm,qjo,qgu,Bool.and_self,qbo]
   refine hih _ ⟨?_,by simp at h2⊢; omega,by simp,fun r hr=>h4 r (List.mem_cons_of_mem _ hr),fun r hr=>by cases hr⟩ (by simp)
   simpa [quy] using h1
  |cons b bs=>
   rw [qjU] at h1
   have hlt:ltI 0 ((((a::ar).length+(b::bs).length:Nat)):Int)=true:=ltT (by simp <;> omega)
   have ev:=qwX N a b (h4 a List.mem_cons_self) (by have:=h4 a List.mem_cons_self; omega)
   simp only [hsum,hlt,cond_true,cond_false,qrp,Bool.false_or,qpW,qom,kq,cq,qf,qh,Bool.and_self,Bool.true_and]
   by_cases c1:qH (qad t.2.2.1 a) (qad t.2.2.1 b)<0
   ·rw [if_pos c1] at h1
    simp only [ltT c1,cond_true,rm,qjo,qgu,Bool.and_self,qbo]
    refine hih _ ⟨?_,by simp at h2⊢; omega,h3,fun r hr=>h4 r (List.mem_cons_of_mem _ hr),h5⟩ (by simp <;> omega)
    simpa [quy] using h1
   rw [if_neg c1] at h1
   by_cases c2:0<qH (qad t.2.2.1 a) (qad t.2.2.1 b)
   ·rw [if_pos c2] at h1
    simp only [ltF c1,ltT c2,cond_true,cond_false,cl b List.mem_cons_self,qf,qh,rm,qjo,qgu,Bool.and_self,qbo]
    refine hih _ ⟨?_,h2,by simp at h3⊢; omega,h4,fun r hr=>h5 r (List.mem_cons_of_mem _ hr)⟩ (by simp <;> omega)
    simpa [qqA] using h1
   ·rw [if_neg c2] at h1
    simp only [ltF c1,ltF c2,cond_true,cond_false,ev,cl b List.mem_cons_self,qf,qh,rm,qjo,qgu,Bool.and_self,qbo,Bool.true_and]
    by_cases e:a=b
    ·rw [if_pos e,List.nil_append] at h1
     simp only [e,decide_true,Bool.not_true,cond_false,Bool.and_self,cond_true]
     exact hih _ ⟨h1,by simp at h2⊢; omega,by simp at h3⊢; omega,fun r hr=>h4 r (List.mem_cons_of_mem _ hr),fun r hr=>h5 r (List.mem_cons_of_mem _ hr)⟩ (by simp <;> omega)
    ·rw [if_neg e] at h1
     simp only [e,decide_false,Bool.not_false,cond_true,Bool.and_self]
     refine hih _ ⟨?_,by simp at h2⊢; omega,by simp at h3⊢; omega,fun r hr=>h4 r (List.mem_cons_of_mem _ hr),fun r hr=>h5 r (List.mem_cons_of_mem _ hr)⟩ (by simp <;> omega)
     simpa [qqA] using h1
def mmK (pk:List Int) (rows:List qaa):Nat→List (List UInt8×Bool)
 |0=>[]
 |n+1=>match rows[n]? with
  |none=>mmK pk rows n
  |some r=>if qad pk r∈ddK pk rows n then mmK pk rows n else qlT (mmK pk rows n) (qdD (qad pk r)) true
theorem qvu (pk:List Int) (rows:List qaa) (k:qaa):(n:Nat)→qge (mmK pk rows n) (qdD k) false=decide (k∈ddK pk rows n)
 |0=>by simp [mmK,ddK,qp4]
 |n+1=>by
  have ih:=qvu pk rows k n
  cases hr:rows[n]? with
  |none=>simp only [mmK,ddK,hr]; exact ih
  |some r=>
   simp only [mmK,ddK,hr]
   by_cases hin:qad pk r∈ddK pk rows n
   ·rw [if_pos hin,if_pos hin]; exact ih
   ·rw [if_neg hin,if_neg hin,qhJ,ih]
    by_cases e:qad pk r=k
    ·subst e
     simp
    ·rw [if_neg (fun q=>e (qnm q))]
     refine decide_eq_decide.2 ?_
     rw [List.mem_append,List.mem_singleton]
     exact ⟨.inl,fun h=>h.elim id fun q=>absurd q.symm e⟩
theorem lenOk (N:Nat):qtL (qbS N):=fun k hk=>by
 obtain ⟨e,h1,h2⟩:=qvj k hk
 refine ⟨e,?_,h2⟩
 have h1':qdt N ((k:Int),())=some (((e:Int),()),()):=h1
 simp only [qbS,h1',qf,qh,cond_true]
abbrev phiR (N:Nat):(qaa×(qaa×Unit))→Option (Int×Unit):=fun x4=>(qf7 (fun y5:((Int×Unit)×Unit)=>(y5.1.1,())) (qJ N (x4.1,(x4.2.1,()))))
theorem cmpR (N:Nat) (hB:N≤1099511627776):Cmp (fun r:qaa=>r.length<N) (phiR N) (fun a b=>¬qH b a<0) where
 ans a b ha hb:=by
  refine ⟨qH a b,?_,by simp⟩
  simp only [phiR,qeK N a b ha hB,qck,Option.map_some]
 tot a b _ _:=by
  by_cases h:qH b a<0
  ·right; intro h2; exact qbT _ (qbP _ _ _ h h2)
  ·exact .inl h
 trans a b c _ _ _ h1 h2 h3:=by
  by_cases e:qH b a<0
  ·exact h1 e
  ·by_cases e2:qH a b<0
   ·exact h2 (qbP _ _ _ h3 e2)
   ·rw [qv2 e2 e] at h3; exact h2 h3
theorem qxy (N:Nat) (xs:List qaa) (hB:N≤1099511627776) (hN:xs.length+10<N) (hx:∀r∈xs,r.length<N) (hn:xs.Nodup):∃K,qbp N (xs,(phiR N,()))=some ((),(K,()))∧K.Perm xs∧qnC K:=by
 obtain ⟨out,o1,o2,o3⟩:=qu8 (n:=xs.length) ([]:qaa) (cmpR N hB) (lenOk N) (by omega) hN (xs:=xs) ⟨rfl,hx⟩
 refine ⟨out,o1,o2.perm,?_⟩
 have hl:=o2.perm.length_eq
 have hnd:out.Nodup:=o2.perm.nodup_iff.2 hn
 rw [qnC,List.pairwise_iff_getElem]
 intro i j hi hj hij
 have h:=o3 i j (by omega) (by omega) (by omega)
 rw [qF _ hi,qF _ hj] at h
 have hne:out[i]≠out[j]:=fun e=>by
  have:=(List.nodup_iff_pairwise_ne.1 hnd)
  exact (List.pairwise_iff_getElem.1 this i j hi hj hij) e
 by_cases h2:qH out[i] out[j]<0
 ·exact h2
 ·exact absurd (qv2 h2 h) hne
end
end Go.Proofs.YtfcdfdnlgfebmaaGreatDoor
namespace Go.Proofs.YtfcdfdnlgfebmaaGreatDoor
open Go.Vi
noncomputable section
def qnz (s:qe) (a b:List qb2) (i:Nat):List qcL:=match s.1[i]?,a[i]?,b[i]? with
 |some t,some x,some y=>qeG t.1 t.2.2.1 x.2.1 y.2.1
 |_,_,_=>[]
def qhb (s:qe) (a b:List qb2):Nat→List qcL
 |0=>[]
 |n+1=>qhb s a b n++qnz s a b n
theorem qxf (n:List UInt8) (pk:List Int) (a b:List qaa) (k:qaa):(ql2 n pk a b k).length≤1:=by
 unfold ql2
 split
 ·simp
 ·split
  ·simp
  ·split <;> simp
theorem qmM (n:List UInt8) (pk:List Int) (a b:List qaa):(K:List qaa)→(K.flatMap (ql2 n pk a b)).length≤K.length
 |[]=>by simp
 |k::K=>by
  have h1:=qmM n pk a b K
  have h2:=qxf n pk a b k
  rw [List.flatMap_cons,List.length_append,List.length_cons]
  omega
theorem ql7 {α β:Type} (f:α→List β) {l:List α} {i:Nat} (h:i<l.length):(l.take (i+1)).flatMap f=(l.take i).flatMap f++f l[i]:=by
 rw [qba h,List.flatMap_append]; simp
structure qpv (N:Nat) (s:qe) (a b:List qb2):Prop where
 ss:qfC N s
 ra:qf8 N a
 rb:qf8 N b
 ka:∀r∈a,∀row∈r.2.1,∀t∈s.1,(qdD (qad t.2.2.1 row)).length≤1099511627776
 kb:∀r∈b,∀row∈r.2.1,∀t∈s.1,(qdD (qad t.2.2.1 row)).length≤1099511627776
 hB:N≤1000000000
 out:∀n,(qhb s a b n).length≤10000000000
 sum:∀(i:Nat) (x y:qb2),a[i]? =some x→b[i]? =some y→x.2.1.length+y.2.1.length+100<N
theorem quY (x y:qaa):eqS (qdD x) (qdD y)=decide (x=y):=by rw [qch]; exact encEq x y
theorem qr6 (N:Nat) (s:qe) (a b:List qb2) (h:qpv N s a b) (Fa:qy0 s a) (Fb:qy0 s b):qan N (s,(a,(b,())))=some ((qhb s a b s.1.length,()),()):=by
 have hB:=h.hB
 have hB':N≤1099511627776:=by omega
 have hst:=h.ss.sm.t
 simp only [qan]
 refine qfP (S:=List qcL×(Int×Unit)) (fun i=>(qhb s a b i,((i:Int),()))) s.1.length _ rfl (fun i hi ih=> ?_) (fun ih=> ?_) hst
 ·have ha:i<a.length:=by rw [Fa.len]; exact hi
  have hb:i<b.length:=by rw [Fb.len]; exact hi
  have ht:=h.ss.tab (List.getElem_mem hi)
  have hD:qhb s a b (i+1)=qhb s a b i++qeG (s.1[i]).1 (s.1[i]).2.2.1 (a[i]).2.1 (b[i]).2.1:=by
   simp only [qhb,qnz,List.getElem?_eq_getElem hi,List.getElem?_eq_getElem ha,List.getElem?_eq_getElem hb]
  rw [hD]
  have hol:=h.out i
  have hsum:=h.sum i _ _ (List.getElem?_eq_getElem ha) (List.getElem?_eq_getElem hb)
  have sa:=Fa.sorted i ha hi
  have sb:=Fb.sorted i hb hi
  have ea:=h.ra.enc _ (List.getElem_mem ha)
  have eb:=h.rb.enc _ (List.getElem_mem hb)
  have rla:=h.ra.row _ (List.getElem_mem ha)
  have rlb:=h.rb.row _ (List.getElem_mem hb)
  have kea:=h.ka _ (List.getElem_mem ha)
  have keb:=h.kb _ (List.getElem_mem hb)
  have htm:=List.getElem_mem hi
  simp only [qaW hi,qK hi,qK ha,qK hb,qF _ hi,qF _ ha,qF _ hb,cond_true,Bool.true_and]
  generalize (a[i]).2.1=A at *
  generalize (b[i]).2.1=B at *
  generalize qhb s a b i=out at *
  generalize s.1[i]=t at *
  have hN1:100<N:=by omega
  have kq:∀r,qL N (t,(r,()))=some ((qad t.2.2.1 r,()),()):=fun r=>qjJ N t r ht.k hB'
  have hcat:=qrQ N A B hN1 (by omega)
  have hkl:∀r,(qad t.2.2.1 r).length<N:=fun r=>by rw [qeA]; exact ht.k
  simp only [hcat,qf,qh,cond_true]
  have hke:∀r∈A++B,(qdD (qad t.2.2.1 r)).length≤1099511627776:=fun r hr=>by
   rcases List.mem_append.1 hr with hr|hr
   ·exact kea r hr t htm
   ·exact keb r hr t htm
  refine qfP (S:=List qaa×(List (List UInt8×Bool)×(Int×Unit))) (fun j=>(ddK t.2.2.1 (A++B) j,(mmK t.2.2.1 (A++B) j,((j:Int),())))) (A++B).length _ rfl (fun j hj ih2=> ?_) (fun ih2=> ?_) (by rw [List.length_append]; omega)
  ·have hm:=List.getElem_mem hj
   have hdl:=qsB t.2.2.1 (A++B) j
   have hjl:j<A.length+B.length:=by rwa [List.length_append] at hj
   have rm:∀k:qaa,qcQ (qn (ddK t.2.2.1 (A++B) j)) (qn ([k]:List qaa)) 24=true:=fun k=>qdZ (by simp; omega)
   simp only [qaW hj,qK hj,qF _ hj,kq,qdk N _ (hke _ hm),qvu,qG,qf,qh,cond_true,Bool.true_and,qQ (show j<4611686018427387904 by omega),rm,Bool.and_self,qbo]
   have e1:ddK t.2.2.1 (A++B) (j+1)=if qad t.2.2.1 (A++B)[j]∈ddK t.2.2.1 (A++B) j then ddK t.2.2.1 (A++B) j else ddK t.2.2.1 (A++B) j++[qad t.2.2.1 (A++B)[j]]:=by
    simp only [ddK,List.getElem?_eq_getElem hj]
   have e2:mmK t.2.2.1 (A++B) (j+1)=if qad t.2.2.1 (A++B)[j]∈ddK t.2.2.1 (A++B) j then mmK t.2.2.1 (A++B) j else qlT (mmK t.2.2.1 (A++B) j) (qdD (qad t.2.2.1 (A++B)[j])) true:=by
    simp only [mmK,List.getElem?_eq_getElem hj]
   rw [e1,e2]
   by_cases q:qad t.2.2.1 (A++B)[j]∈ddK t.2.2.1 (A++B) j
   ·simp only [q,decide_true,Bool.not_true,cond_false,cond_true,if_true]
   ·simp only [q,decide_false,Bool.not_false,cond_true,if_false]
  ·have hnl:ltI (((A++B).length:Nat):Int) (qn (A++B))=false:=qax (Nat.lt_irrefl _)
   have hdl:=qsB t.2.2.1 (A++B) (A++B).length
   rw [List.length_append] at hdl
   obtain ⟨K,k1,k2,k3⟩:=qxy N (ddK t.2.2.1 (A++B) (A++B).length) hB' (by rw [List.length_append]; omega) (fun r hr=>by
    obtain ⟨_,r0,_,_,rfl⟩:=(qsb _ _ _ _).1 hr
    exact hkl r0) (qqI _ _ _)
   have hKm:∀k,k∈K↔(∃r∈A,qad t.2.2.1 r=k)∨∃r∈B,qad t.2.2.1 r=k:=fun k=>by
    rw [k2.mem_iff,qsb]
    constructor
    ·rintro ⟨j,r,_,h2,h3⟩
     rcases List.mem_append.1 (List.mem_of_getElem? h2) with hr|hr
     ·exact .inl ⟨r,hr,h3⟩
     ·exact .inr ⟨r,hr,h3⟩
    ·rintro (⟨r,hr,h3⟩|⟨r,hr,h3⟩)
     ·obtain ⟨j,hj,rfl⟩:=List.getElem_of_mem (List.mem_append_left B hr)
      exact ⟨j,_,hj,List.getElem?_eq_getElem hj,h3⟩
     ·obtain ⟨j,hj,rfl⟩:=List.getElem_of_mem (List.mem_append_right A hr)
      exact ⟨j,_,hj,List.getElem?_eq_getElem hj,h3⟩
   have hKl:K.length≤A.length+B.length:=by
    rw [k2.length_eq,List.length_append] at *
    exact hdl
   have hKenc:∀k∈K,k.length<N:=fun k hk=>by
    rcases (hKm k).1 hk with ⟨r,_,rfl⟩|⟨r,_,rfl⟩ <;> exact hkl r
   have hmerge:=qgm t.1 t.2.2.1 _ A B K (Nat.le_refl _) sa sb k3 hKm
   have k1':qbp N (ddK t.2.2.1 (A++B) (A++B).length,((fun x4=>(qf7 (fun y5:((Int×Unit)×Unit)=>(y5.1.1,())) (qJ N (x4.1,(x4.2.1,()))))),()))=some ((),(K,())):=k1
   simp only [hnl,cond_false,k1',qf,qh,cond_true,qG]
   rw [←hmerge]
   refine qfP (S:=List qcL×(Int×Unit)) (fun j=>(out++(K.take j).flatMap (ql2 t.1 t.2.2.1 A B),((j:Int),()))) K.length _ (by simp) (fun j hj ih3=> ?_) (fun ih3=> ?_) (by omega)
   ·have hkm:=List.getElem_mem hj
    have hfl:=qmM t.1 t.2.2.1 A B (K.take j)
    rw [List.length_take] at hfl
    have rm:∀c:qcL,qcQ (qn (out++(K.take j).flatMap (ql2 t.1 t.2.2.1 A B))) (qn ([c]:List qcL)) 72=true:=fun c=>qdZ (by simp only [List.length_append,List.length_cons,List.length_nil]; omega)
    have fa:=qpG N t A K[j] ht.k (by omega) hB'
    have fb:=qpG N t B K[j] ht.k (by omega) hB'
    have la:=qrO sa K[j]
    have lb:=qrO sb K[j]
    rw [ql7 _ hj,←List.append_assoc]
    simp only [qaW hj,qK hj,qF _ hj,fa,fb,qf,qh,cond_true,Bool.true_and,qQ (show j<4611686018427387904 by omega),rm,qbo]
    generalize qci (fun r=>qH (qad t.2.2.1 r) K[j]) A=qa at *
    generalize qci (fun r=>qH (qad t.2.2.1 r) K[j]) B=qb at *
    obtain ⟨ja,ya⟩:=qa
    obtain ⟨jb,yb⟩:=qb
    simp only at la lb⊢
    unfold ql2
    rcases lb with ⟨rfl,lb⟩|⟨hjb,rfl,lb⟩
    ·simp only [lb,Bool.not_false,cond_true,quy]
    ·have eB:=qdk N _ (eb _ (List.getElem_mem hjb))
     rcases la with ⟨rfl,la⟩|⟨hja,rfl,la⟩
     ·simp only [la,lb,Bool.not_true,Bool.not_false,cond_false,cond_true,Bool.true_or,Bool.true_and,qK hjb,qF _ hjb,Bool.and_self,qqA]
     ·have eA:=qdk N _ (ea _ (List.getElem_mem hja))
      simp only [la,lb,Bool.not_true,Bool.not_false,cond_false,cond_true,Bool.false_or,Bool.true_and,qK hja,qK hjb,qF _ hja,qF _ hjb,eA,eB,qf,qh,quY,Bool.and_self,qqA]
      by_cases e:A[ja]=B[jb]
      ·simp only [e,decide_true,Bool.not_true,cond_false,cond_true,if_true,List.append_nil]
      ·simp only [e,decide_false,Bool.not_false,cond_true,if_false]
   ·simp only
    rw [qD (qax (Nat.lt_irrefl _)),List.take_length,qQ (show i<4611686018427387904 by omega)]
 ·simp only
  rw [qD (qax (Nat.lt_irrefl _))]
def qvl (s:qe) (a b:List qb2):Int:=if qmv s≠0 then qmv s else if qej s a≠0 then qej s a else qej s b
theorem qt3 (N:Nat) (s:qe) (a b:List qb2) (h:qpv N s a b):
  qdw N (s,(a,(b,())))=some (((if qvl s a b≠0 then [] else qhb s a b s.1.length),(qvl s a b,())),()):=by
 have hB:=h.hB
 have hst:=h.ss.sm.t
 have hm:=h.ss.m
 obtain ⟨M,hM⟩:∃M,N=M+3:=⟨N - 3,by omega⟩
 have ca:=qma N s a h.ss h.ra
 have cb:=qma N s b h.ss h.rb
 have l0:ltI 0 (qn [a,b])=true:=by rw [qbl,qj]; simp
 have l1:ltI 1 (qn [a,b])=true:=by rw [qbl,qj]; simp
 have l2:ltI 2 (qn [a,b])=false:=by rw [qbl,qj]; simp
 have b0:inB 0 (qn [a,b])=true:=by rw [qcZ,qj]; simp
 have b1:inB 1 (qn [a,b])=true:=by rw [qcZ,qj]; simp
 have g0:qi [a,b] 0 []=a:=by rw [qdf]; rfl
 have g1:qi [a,b] 1 []=b:=by rw [qdf]; rfl
 have a0:qS .i64 0 1=1:=qQ (i:=0) (by omega)
 have a1:qS .i64 1 1=2:=qQ (i:=1) (by omega)
 simp only [qdw,qG,qrc N s h.ss,qf,qh,cond_true]
 unfold qvl
 by_cases h0:qmv s≠0
 ·simp only [if_pos h0,neT h0,cond_true]
 simp only [if_neg h0,neF (show qmv s=0 by omega),cond_false]
 have two:∀ {R:Type} (st:(Int×Unit→Option R)→Int×Unit→Option R) (r:Option R),(∀ih,st ih (0,())=r)→qab N st (0,())=r:=fun st r hr=>by
  rw [hM,qaN]; exact hr _
 by_cases h1:qej s a≠0
 ·refine two _ _ (fun ih=> ?_)
  simp only [l0,b0,g0,ca,qf,qh,cond_true,neT h1,if_pos h1]
 have two2:∀ {R:Type} (st:(Int×Unit→Option R)→Int×Unit→Option R) (r:Option R),(∀ih,st ih (0,())=ih (1,()))→(∀ih,st ih (1,())=r)→qab N st (0,())=r:=fun st r hr hr2=>by
  rw [hM,qaN,hr,qaN,hr2]
 have e1:qej s a=0:=by omega
 simp only [e1,ne_eq,not_true_eq_false,if_false]
 by_cases h2:qej s b≠0
 ·refine two2 _ _ (fun ih=>by simp only [l0,b0,g0,ca,qf,qh,cond_true,neF e1,cond_false,a0]) (fun ih=> ?_)
  simp only [l1,b1,g1,cb,qf,qh,cond_true,neT h2,if_pos h2]
 have two3:∀ {R:Type} (st:(Int×Unit→Option R)→Int×Unit→Option R) (r:Option R),(∀ih,st ih (0,())=ih (1,()))→(∀ih,st ih (1,())=ih (2,()))→(∀ih,st ih (2,())=r)→qab N st (0,())=r:=fun st r hr hr2 hr3=>by
  rw [hM,qaN,hr,qaN,hr2,qaN,hr3]
 have e2:qej s b=0:=by omega
 rw [if_neg h2,e2]
 have Fa:=qn1 e1
 have Fb:=qn1 e2
 refine two3 _ _ (fun ih=>by simp only [l0,b0,g0,ca,qf,qh,cond_true,neF e1,cond_false,a0]) (fun ih=>by simp only [l1,b1,g1,cb,qf,qh,cond_true,neF e2,cond_false,a1]) (fun ih=> ?_)
 simp only [l2,cond_false]
 refine qfP (S:=List qcL×(Int×Unit)) (fun i=>(qhb s a b i,((i:Int),()))) s.1.length _ rfl (fun i hi ih=> ?_) (fun ih=> ?_) hst
 ·have ha:i<a.length:=by rw [Fa.len]; exact hi
  have hb:i<b.length:=by rw [Fb.len]; exact hi
  have ht:=h.ss.tab (List.getElem_mem hi)
  have hD:qhb s a b (i+1)=qhb s a b i++qeG (s.1[i]).1 (s.1[i]).2.2.1 (a[i]).2.1 (b[i]).2.1:=by
   simp only [qhb,qnz,List.getElem?_eq_getElem hi,List.getElem?_eq_getElem ha,List.getElem?_eq_getElem hb]
  have hol:=h.out i
  have hsum:=h.sum i _ _ (List.getElem?_eq_getElem ha) (List.getElem?_eq_getElem hb)
  have hdl:=qfM (s.1[i]).1 (s.1[i]).2.2.1 _ (a[i]).2.1 (b[i]).2.1 (Nat.le_refl _)
  have dr:=qr9 N s.1[i] (a[i]).2.1 (b[i]).2.1 ht.k (by omega) hB (h.ra.row _ (List.getElem_mem ha)) (h.rb.row _ (List.getElem_mem hb))
  have rm:qcQ (qn (qhb s a b i)) (qn (qeG (s.1[i]).1 (s.1[i]).2.2.1 (a[i]).2.1 (b[i]).2.1)) 72=true:=qdZ (by omega)
  rw [hD]
  simp only [qaW hi,qK hi,qK ha,qK hb,qF _ hi,qF _ ha,qF _ hb,dr,qf,qh,rm,Bool.and_self,cond_true,qbo,qQ (show i<4611686018427387904 by omega)]
 ·simp only
  rw [qD (qax (Nat.lt_irrefl _))]
theorem qhV (n:List UInt8) (pk:List Int):(m:Nat)→(a b:List qaa)→a.length+b.length≤m→∀c∈qeG n pk a b,(∃r∈a,c=quy n (qad pk r))∨∃r∈b,c=qqA n r
 |m,[],[],_,c,hc=>by rw [qlp] at hc; cases hc
 |0,a::ar,_,h,_,_=>by simp at h
 |0,[],b::bs,h,_,_=>by simp at h
 |m+1,a::ar,[],h,c,hc=>by
  rw [qjL] at hc
  rcases List.mem_cons.1 hc with rfl|hc
  ·exact .inl ⟨a,List.mem_cons_self,rfl⟩
  ·rcases qhV n pk m ar [] (by simp at h⊢; omega) c hc with ⟨r,hr,e⟩|⟨r,hr,e⟩
   ·exact .inl ⟨r,List.mem_cons_of_mem _ hr,e⟩
   ·cases hr
 |m+1,[],b::bs,h,c,hc=>by
  rw [qir] at hc
  rcases List.mem_cons.1 hc with rfl|hc
  ·exact .inr ⟨b,List.mem_cons_self,rfl⟩
  ·rcases qhV n pk m [] bs (by simp at h⊢; omega) c hc with ⟨r,hr,e⟩|⟨r,hr,e⟩
   ·cases hr
   ·exact .inr ⟨r,List.mem_cons_of_mem _ hr,e⟩
 |m+1,a::ar,b::bs,h,c,hc=>by
  rw [qjU] at hc
  split at hc
  ·rcases List.mem_cons.1 hc with rfl|hc
   ·exact .inl ⟨a,List.mem_cons_self,rfl⟩
   ·rcases qhV n pk m ar (b::bs) (by simp at h⊢; omega) c hc with ⟨r,hr,e⟩|⟨r,hr,e⟩
    ·exact .inl ⟨r,List.mem_cons_of_mem _ hr,e⟩
    ·exact .inr ⟨r,hr,e⟩
  ·split at hc
   ·rcases List.mem_cons.1 hc with rfl|hc
    ·exact .inr ⟨b,List.mem_cons_self,rfl⟩
    ·rcases qhV n pk m (a::ar) bs (by simp at h⊢; omega) c hc with ⟨r,hr,e⟩|⟨r,hr,e⟩
     ·exact .inl ⟨r,hr,e⟩
     ·exact .inr ⟨r,List.mem_cons_of_mem _ hr,e⟩
   ·rcases List.mem_append.1 hc with hc|hc
    ·split at hc
     ·cases hc
     ·rw [List.mem_singleton] at hc
      exact .inr ⟨b,List.mem_cons_self,hc⟩
    ·rcases qhV n pk m ar bs (by simp at h⊢; omega) c hc with ⟨r,hr,e⟩|⟨r,hr,e⟩
     ·exact .inl ⟨r,List.mem_cons_of_mem _ hr,e⟩
     ·exact .inr ⟨r,List.mem_cons_of_mem _ hr,e⟩
theorem qpi {s:qe} {a b:List qb2} {i:Nat} {c:qcL} (hc:c∈qnz s a b i):∃t∈s.1,(∃x∈a,∃r∈x.2.1,c=quy t.1 (qad t.2.2.1 r))∨∃y∈b,∃r∈y.2.1,c=qqA t.1 r:=by
 unfold qnz at hc
 split at hc
 ·rename_i t x y h1 h2 h3
  refine ⟨t,List.mem_of_getElem? h1,?_⟩
  rcases qhV t.1 t.2.2.1 _ x.2.1 y.2.1 (Nat.le_refl _) c hc with ⟨r,hr,e⟩|⟨r,hr,e⟩
  ·exact .inl ⟨x,List.mem_of_getElem? h2,r,hr,e⟩
  ·exact .inr ⟨y,List.mem_of_getElem? h3,r,hr,e⟩
 ·cases hc
theorem qop {s:qe} {a b:List qb2} {c:qcL} :(n:Nat)→c∈qhb s a b n→∃i,c∈qnz s a b i
 |0,h=>by cases h
 |n+1,h=>by
  rcases List.mem_append.1 h with h|h
  ·exact qop n h
  ·exact ⟨n,h⟩
theorem qwn:(qdD ([]:qaa)).length≤1099511627776:=qsQ (r:=[]) (fun v hv=>by cases hv) (by simp)
theorem qpv.esm {N:Nat} {s:qe} {a b:List qb2} (h:qpv N s a b) (n:Nat):qsU (qhb s a b n) where
 ek c hc:=by
  obtain ⟨i,hc⟩:=qop n hc
  obtain ⟨t,ht,⟨x,hx,r,hr,rfl⟩|⟨y,hy,r,hr,rfl⟩⟩:=qpi hc
  ·exact h.ka x hx r hr t ht
  ·exact qwn
 er c hc:=by
  obtain ⟨i,hc⟩:=qop n hc
  obtain ⟨t,ht,⟨x,hx,r,hr,rfl⟩|⟨y,hy,r,hr,rfl⟩⟩:=qpi hc
  ·exact qwn
  ·exact h.rb.enc y hy r hr
def qkX (rels:List qb2):Nat:=(rels.map (fun r=>r.2.1.length)).sum
theorem qh0 (rels:List qb2) (n:Nat):qkX (rels.take n)≤qkX rels:=by
 have:qkX rels=qkX (rels.take n)+qkX (rels.drop n):=by
  unfold qkX
  rw [←List.sum_append,←List.map_append,List.take_append_drop]
 omega
theorem qqZ {rels:List qb2} {n:Nat} {r:qb2} (h:rels[n]? =some r):qkX (rels.take (n+1))=qkX (rels.take n)+r.2.1.length:=by
 obtain ⟨hn,rfl⟩:=List.getElem?_eq_some_iff.1 h
 unfold qkX
 rw [qba hn,List.map_append,List.sum_append]; simp
theorem quQ {rels:List qb2} {n:Nat} :qkX (rels.take n)≤qkX (rels.take (n+1)):=by
 have:=qh0 (rels.take (n+1)) n
 rwa [List.take_take,Nat.min_eq_left (by omega)] at this
theorem qlm (s:qe) (a b:List qb2):(n:Nat)→(qhb s a b n).length≤qkX (a.take n)+qkX (b.take n)
 |0=>by simp [qhb]
 |n+1=>by
  have ih:=qlm s a b n
  have h1:=quQ (rels:=a) (n:=n)
  have h2:=quQ (rels:=b) (n:=n)
  simp only [qhb,List.length_append]
  unfold qnz
  split
  ·rename_i t x y _ hx hy
   rw [qqZ hx,qqZ hy]
   have:=qfM t.1 t.2.2.1 _ x.2.1 y.2.1 (Nat.le_refl _)
   omega
  ·simp; omega
theorem qrD (rels:List qb2):qkX rels≤(rels.map qmS.bulk).sum:=by
 induction rels with
 |nil=>simp [qkX]
 |cons r rs ih=>
  have h:r.2.1.length≤qmS.bulk r:=by
   rw [qs0]
   have:=qjk (Ty.slice qjx).bulk r.2.1 (fun x _=>qex (.slice qjx) x)
   omega
  have e:qkX (r::rs)=r.2.1.length+qkX rs:=by simp [qkX]
  rw [e,List.map_cons,List.sum_cons]
  omega
theorem qf8.mono {N M:Nat} {rels:List qb2} (h:qf8 N rels) (hNM:N≤M):qf8 M rels:=
 ⟨Nat.lt_of_lt_of_le h.n hNM,fun r hr=>Nat.lt_of_lt_of_le (h.rows r hr) hNM,fun r hr x hx=>Nat.lt_of_lt_of_le (h.row r hr x hx) hNM,h.enc⟩
theorem dsmall_of {s:qe} {a b:List qb2} (ga:(Ty.slice qmS).good a) (gb:(Ty.slice qmS).good b) (hb:qwL.bulk s+((Ty.slice qmS).bulk a+((Ty.slice qmS).bulk b+0))≤1048578):qpv 5000000 s a b:=by
 have ea:(Ty.slice qmS).bulk a=(a.map qmS.bulk).sum+1:=rfl
 have eb:(Ty.slice qmS).bulk b=(b.map qmS.bulk).sum+1:=rfl
 have ia:=qv6 (b:=(a.map qmS.bulk).sum) ga (by omega)
 have ib:=qv6 (b:=(b.map qmS.bulk).sum) gb (by omega)
 have ta:=qrD a
 have tb:=qrD b
 refine ⟨(qru (by omega)).mono (by omega) (by omega),(qn0 ia (by omega)).mono (by omega),(qn0 ib (by omega)).mono (by omega),(qoL (s:=s) ia (by omega)).kt,(qoL (s:=s) ib (by omega)).kt,by omega,fun n=> ?_,fun i x y hx hy=> ?_⟩
 ·have h1:=qlm s a b n
  have h2:=qh0 a n
  have h3:=qh0 b n
  omega
 ·have h1:=(ia.rows (List.mem_of_getElem? hx)).1
  have h2:=(ib.rows (List.mem_of_getElem? hy)).1
  omega
end
end Go.Proofs.YtfcdfdnlgfebmaaGreatDoor
namespace Go.Proofs.YtfcdfdnlgfebmaaGreatDoor
open Go.Vi
noncomputable section
def quW (t:qs) (rows:List qaa):Prop:=rows.length≤24∧(∀r∈rows,qtu t r=0)∧qdI t.2.2.1 rows
structure qtt (s:qe) (rels:List qb2):Prop where
 len:rels.length=s.1.length
 name:∀i (hi:i<rels.length) (ht:i<s.1.length),(rels[i]).1=(s.1[i]).1
 ok:∀i (hi:i<rels.length) (ht:i<s.1.length),quW s.1[i] (rels[i]).2.1
theorem qlX {E:Type} {g:Nat→Option E} : {n:Nat} →(∀i,i<n→g i=none)→qac g n=none
 |0,_=>rfl
 |n+1,h=>by simp only [qac,qlX (n:=n) fun i hi=>h i (by omega),h n (by omega)]
theorem qpQ {s:qe} {rels:List qb2} (h:qej s rels=0):qtt s rels:=by
 have F:=qn1 h
 refine ⟨F.len,F.name,fun i hi ht=> ?_⟩
 unfold qej at h
 split at h
 ·cases h
 obtain ⟨h1,_⟩:=qd6 (qq5 s.1 rels) h
 have:=qaP h1 i hi
 simp only [qtB,List.getElem?_eq_getElem hi,qF _ ht] at this
 split at this
 ·cases this
 split at this
 ·cases this
 rename_i h24
 refine ⟨by omega,fun r hr=> ?_,F.sorted i hi ht⟩
 obtain ⟨k,hk,rfl⟩:=List.getElem_of_mem hr
 have:=qaP this k hk
 simp only [qmX,List.getElem?_eq_getElem hk] at this
 split at this
 ·cases this
 rename_i hv
 simpa using hv
theorem qtt.vconf {s:qe} {rels:List qb2} (h:qtt s rels):qej s rels=0:=by
 unfold qej
 rw [if_neg (by rw [h.len]; simp)]
 have:qac (qtB s.1 rels) rels.length=none:=qlX fun i hi=>by
  have ht:i<s.1.length:=by rw [←h.len]; exact hi
  obtain ⟨h1,h2,h3⟩:=h.ok i hi ht
  simp only [qtB,List.getElem?_eq_getElem hi,qF _ ht]
  rw [if_neg (by simp [h.name i hi ht]),if_neg (by omega)]
  refine qlX fun k hk=> ?_
  simp only [qmX,List.getElem?_eq_getElem hk]
  rw [if_neg (by simp [h2 _ (List.getElem_mem hk)])]
  by_cases hk0:0<k
  ·have hp:=List.pairwise_iff_getElem.1 h3 (k - 1) k (by omega) hk (by omega)
   have e:qi (rels[i]).2.1 ((k:Int) - 1) ([]:qaa)=(rels[i]).2.1[k - 1]'(by omega):=by
    rw [show (k:Int) - 1=((k - 1:Nat):Int) by omega,qF _ (by omega)]
   rw [e,if_neg (by omega),if_neg (by omega)]
  ·rw [if_neg (by omega),if_neg (by omega)]
 rw [this]
abbrev relZ:qb2:=(([]:List UInt8),(([]:List qaa),()))
def qkn (rels:List qb2) (i:Nat):List qaa:=(qi rels (i:Int) relZ).2.1
def setI (rels:List qb2) (i:Nat) (rows:List qaa):List qb2:=qbZ rels (i:Int) ((qi rels (i:Int) relZ).1,(rows,(qi rels (i:Int) relZ).2.2))
def ixT (s:qe) (c:qcL):Nat:=(qke (qdh c.2.1) s.1).getD 0
def qrW (t:qs) (c:qcL) (P:List qaa):List qaa:=if c.1=1 then qqz t.2.2.1 c.2.2.2.1 P else qjQ t.2.2.1 c.2.2.1 P
def quc (t:qs) (c:qcL) (P:List qaa):Option Int:=if c.1=1 then (if 24<(qrW t c P).length then some 2 else none) else if P.any (fun r=>decide (qad t.2.2.1 r=c.2.2.1))=true then none else some 9
def qkA (s:qe) (c:qcL) (rels:List qb2):Option Int:=if qkT s c≠0 then some (qkT s c) else quc (qeT s c.2.1) c (qkn rels (ixT s c))
def qmg (s:qe) (c:qcL) (rels:List qb2):List qb2:=setI rels (ixT s c) (qrW (qeT s c.2.1) c (qkn rels (ixT s c)))
def stA (s:qe) (inst:List qb2) (cs:List qcL):Nat→List qb2
 |0=>inst
 |n+1=>match cs[n]? with
  |none=>stA s inst cs n
  |some c=>if qkA s c (stA s inst cs n)=none then qmg s c (stA s inst cs n) else stA s inst cs n
def cdA (s:qe) (inst:List qb2) (cs:List qcL) (n:Nat):Option Int:=match cs[n]? with
 |none=>none
 |some c=>qkA s c (stA s inst cs n)
theorem qxU {s:qe} {inst:List qb2} {cs:List qcL} {n:Nat} (hn:n<cs.length):stA s inst cs (n+1)=if qkA s cs[n] (stA s inst cs n)=none then qmg s cs[n] (stA s inst cs n) else stA s inst cs n:=by
 simp only [stA,List.getElem?_eq_getElem hn]
theorem qx7 {s:qe} {inst:List qb2} {cs:List qcL} {n:Nat} (hn:n<cs.length):cdA s inst cs n=qkA s cs[n] (stA s inst cs n):=by
 simp only [cdA,List.getElem?_eq_getElem hn]
theorem qjP (rels:List qb2) (i:Nat) (rows:List qaa):(setI rels i rows).length=rels.length:=by unfold setI; rw [qbj,List.length_set]
theorem qd0 {rels:List qb2} {i:Nat} (h:i<rels.length):qkn rels i=(rels[i]).2.1:=by unfold qkn; rw [qF _ h]
theorem qpJ {rels:List qb2} {i:Nat} (rows:List qaa) (h:i<rels.length) {j:Nat} (hj:j<rels.length):(setI rels i rows)[j]'(by rw [qjP]; exact hj)=if i=j then ((rels[i]).1,(rows,())) else rels[j]:=by
 simp only [setI,qbj,qF _ h]
 rw [List.getElem_set]
 simp
theorem qwv {s:qe} {c:qcL} (h:qkT s c=0):c.1=1∨c.1=2:=by
 unfold qkT at h
 split at h
 ·cases h
 rename_i hb
 by_cases h1:c.1=1
 ·exact .inl h1
 ·by_cases h2:c.1=2
  ·exact .inr h2
  ·exact absurd (by simp [qwI,h1,h2]) hb
theorem row_of {s:qe} {c:qcL} (h:qkT s c=0) (h1:c.1=1):qtu (qeT s c.2.1) c.2.2.2.1=0:=by
 obtain ⟨i,t,hi,a1,a2,a3,a4,a5⟩:=qlq h
 unfold qkT at h
 split at h
 ·cases h
 rw [a2] at h
 simp only [h1,if_true] at h
 rw [a5]; exact h
theorem qyW {t:qs} {c:qcL} {P:List qaa} (hP:quW t P) (hc:quc t c P=none) (hk:c.1=1∨c.1=2) (hr:c.1=1→qtu t c.2.2.2.1=0):quW t (qrW t c P):=by
 obtain ⟨h1,h2,h3⟩:=hP
 by_cases q:c.1=1
 ·have e:qrW t c P=qqz t.2.2.1 c.2.2.2.1 P:=by unfold qrW; rw [if_pos q]
  unfold quc at hc
  rw [if_pos q,e] at hc
  rw [e]
  by_cases h24:24<(qqz t.2.2.1 c.2.2.2.1 P).length
  ·rw [if_pos h24] at hc; cases hc
  refine ⟨by omega,fun r hr'=> ?_,qoq h3⟩
  rcases qnf r hr' with rfl|hm
  ·exact hr q
  ·exact h2 r hm
 ·have e:qrW t c P=qjQ t.2.2.1 c.2.2.1 P:=by unfold qrW; rw [if_neg q]
  rw [e]
  exact ⟨Nat.le_trans (List.length_filter_le _ _) h1,fun r hr'=>h2 r (List.mem_filter.1 hr').1,qsM h3⟩
theorem qrt {s:qe} {c:qcL} (h:qkT s c=0):∃hi:ixT s c<s.1.length,s.1[ixT s c]=qeT s c.2.1∧qgF s c.2.1=some (qeT s c.2.1)∧qke (qdh c.2.1) s.1=some (ixT s c)∧(qeT s c.2.1).1=c.2.1:=by
 obtain ⟨i,t,hi,a1,a2,a3,a4,a5⟩:=qlq h
 have e:ixT s c=i:=by unfold ixT; rw [a1]; rfl
 rw [e,a5]
 exact ⟨hi,a3,a2,a1,a4⟩
theorem qui {s:qe} {c:qcL} {rels:List qb2} (h:qtt s rels) (hc:qkA s c rels=none):qtt s (qmg s c rels):=by
 unfold qkA at hc
 split at hc
 ·cases hc
 rename_i hv
 have hv:qkT s c=0:=by simpa using hv
 obtain ⟨hi,e1,e2,e3,e4⟩:=qrt hv
 have hir:ixT s c<rels.length:=by rw [h.len]; exact hi
 have hok:=h.ok _ hir hi
 rw [e1,←qd0 hir] at hok
 have hn:=qyW hok hc (qwv hv) (row_of hv)
 refine ⟨by rw [qmg,qjP]; exact h.len,fun j hj ht=> ?_,fun j hj ht=> ?_⟩
 ·have hj':j<rels.length:=by rw [qmg,qjP] at hj; exact hj
  simp only [qmg,qpJ _ hir hj']
  by_cases q:ixT s c=j
  ·subst q; rw [if_pos rfl]; exact h.name _ hir hi
  ·rw [if_neg q]; exact h.name j hj' ht
 ·have hj':j<rels.length:=by rw [qmg,qjP] at hj; exact hj
  simp only [qmg,qpJ _ hir hj']
  by_cases q:ixT s c=j
  ·subst q; rw [if_pos rfl,e1]; exact hn
  ·rw [if_neg q]; exact h.ok j hj' ht
theorem qft {s:qe} {inst:List qb2} {cs:List qcL} (h:qtt s inst):(n:Nat)→qtt s (stA s inst cs n)
 |0=>h
 |n+1=>by
  have ih:=qft (cs:=cs) h n
  simp only [stA]
  split
  ·exact ih
  ·split
   ·rename_i hc; exact qui ih hc
   ·exact ih
def From (inst:List qb2) (cs:List qcL) (r:qaa):Prop:=(∃q∈inst,r∈q.2.1)∨∃c∈cs,c.1=1∧r=c.2.2.2.1
theorem quT {t:qs} {c:qcL} {P:List qaa} {r:qaa} (h:r∈qrW t c P):r∈P∨(c.1=1∧r=c.2.2.2.1):=by
 unfold qrW at h
 split at h
 ·rename_i h1
  rcases qnf r h with h|h
  ·exact .inr ⟨h1,h⟩
  ·exact .inl h
 ·exact .inl (List.mem_filter.1 h).1
theorem qlh {s:qe} {inst:List qb2} {cs:List qcL} (hC:qtt s inst):(n:Nat)→∀q∈stA s inst cs n,∀r∈q.2.1,From inst cs r
 |0,q,hq,r,hr=> .inl ⟨q,hq,hr⟩
 |n+1,q,hq,r,hr=>by
  have ih:=qlh (cs:=cs) hC n
  have hCn:=qft (cs:=cs) hC n
  simp only [stA] at hq
  split at hq
  ·exact ih q hq r hr
  ·rename_i c hc
   split at hq
   ·rename_i hcode
    obtain ⟨j,hj,rfl⟩:=List.getElem_of_mem hq
    have hj':j<(stA s inst cs n).length:=by rw [qmg,qjP] at hj; exact hj
    unfold qkA at hcode
    split at hcode
    ·cases hcode
    rename_i hv
    obtain ⟨hi,_⟩:=qrt (s:=s) (c:=c) (by simpa using hv)
    have hir:ixT s c<(stA s inst cs n).length:=by rw [hCn.len]; exact hi
    simp only [qmg,qpJ _ hir hj'] at hr
    by_cases e:ixT s c=j
    ·rw [if_pos e] at hr
     rcases quT hr with h|⟨h1,h2⟩
     ·rw [qd0 hir] at h
      exact ih _ (List.getElem_mem hir) r h
     ·exact .inr ⟨c,List.mem_of_getElem? hc,h1,h2⟩
    ·rw [if_neg e] at hr
     exact ih _ (List.getElem_mem hj') r hr
   ·exact ih q hq r hr
structure qkb (N:Nat) (s:qe) (inst:List qb2) (cs:List qcL):Prop where
 ss:qfC N s
 ri:qf8 N inst
 ki:qx8 s inst
 cc:qs4 N s cs
 hB:N≤1000000000
 hN:1000<N
theorem qkb.row {N:Nat} {s:qe} {inst:List qb2} {cs:List qcL} (h:qkb N s inst cs) {r:qaa} (hr:From inst cs r):r.length<N∧(qdD r).length≤1099511627776∧∀t∈s.1,(qdD (qad t.2.2.1 r)).length≤1099511627776:=by
 rcases hr with ⟨q,hq,hr⟩|⟨c,hc,h1,rfl⟩
 ·exact ⟨h.ri.row q hq r hr,h.ri.enc q hq r hr,h.ki.kt q hq r hr⟩
 ·refine ⟨h.cc.row c hc,h.cc.er c hc,fun t ht=> ?_⟩
  have:=h.cc.et c hc t ht
  unfold qmJ at this
  rwa [if_pos h1] at this
theorem qkb.rsm {N:Nat} {s:qe} {inst:List qb2} {cs:List qcL} (h:qkb N s inst cs) (hC:qtt s inst) (n:Nat):qf8 N (stA s inst cs n):=by
 have hCn:=qft (cs:=cs) hC n
 have hm:=h.ss.m
 refine ⟨by rw [hCn.len]; exact h.ss.sm.t,fun q hq=> ?_,fun q hq r hr=>(h.row (qlh hC n q hq r hr)).1,fun q hq r hr=>(h.row (qlh hC n q hq r hr)).2.1⟩
 obtain ⟨j,hj,rfl⟩:=List.getElem_of_mem hq
 have:=(hCn.ok j hj (by rw [←hCn.len]; exact hj)).1
 omega
theorem qwG (N:Nat) (rows:List qaa) (i:Nat) (row:qaa) (hi:i≤rows.length) (hb:rows.length≤1000000000):qbN N (rows,((i:Int),([row],())))=some ((rows.take i++[row]++rows.drop i,()),()):=by
 simp only [qbN]
 rw [if_pos ⟨by omega,by omega,by simp; omega⟩]
 simp
theorem qvb (N:Nat) (rows:List qaa) (i:Nat) (hi:i<rows.length) (hb:rows.length≤1000000000):qbR N (rows,((i:Int),(qS .i64 (i:Int) 1,())))=some ((rows.take i++rows.drop (i+1),()),()):=by
 rw [qQ (by omega)]
 simp only [qbR]
 rw [if_pos ⟨by omega,by omega,by omega⟩]
 simp
theorem qqK (N:Nat) (t:qs) (rows:List qaa) (key:qaa) (hN:t.2.2.1.length<N) (hN2:rows.length<N) (hB:N≤1000000000) (hr:∀r∈rows,r.length≤1099511627776) (hs:qdI t.2.2.1 rows):
  qcv N (t,(rows,(key,())))=some ((qjQ t.2.2.1 key rows,(rows.any (fun r=>decide (qad t.2.2.1 r=key)),())),()):=by
 have hB':N≤1099511627776:=by omega
 obtain ⟨s1,s2,s3⟩:=qh3 (fun r=>qH (qad t.2.2.1 r) key) rows
 have hrem:=quM t.2.2.1 key rows hs
 have hany:=qr5 (pk:=t.2.2.1) hs key
 simp only [qcv,qG,qko N rows hN2 hB' hr,qf,qh,cond_true,qvt N t rows key hN hN2 hB']
 rw [←hrem,←hany]
 generalize qci (fun r=>qH (qad t.2.2.1 r) key) rows=q at *
 obtain ⟨i,b⟩:=q
 simp only at s1 s2 s3⊢
 cases b with
 |false=>simp [qx0]
 |true=>
  have hi:i<rows.length:=by
   rcases Nat.lt_or_ge i rows.length with h|h
   ·exact h
   ·have:=s2 (by omega); cases this
  simp [qvb N rows i hi (by omega),qf,qh,qx0]
theorem quP (N:Nat) (t:qs) (rows:List qaa) (row:qaa) (hN:t.2.2.1.length<N) (hN2:rows.length<N) (hB:N≤1000000000) (hr:∀r∈rows,r.length≤1099511627776) (hrow:row.length≤1099511627776):
  qca N (t,(rows,(row,())))=some ((qqz t.2.2.1 row rows,()),()):=by
 have hB':N≤1099511627776:=by omega
 obtain ⟨s1,s2,s3⟩:=qh3 (fun r=>qH (qad t.2.2.1 r) (qad t.2.2.1 row)) rows
 have hins:=qvB t.2.2.1 row rows
 simp only [qca,qG,qko N rows hN2 hB' hr,qoE N row hrow,qtw N t row hN hB',qf,qh,cond_true,Bool.true_and,qvt N t rows _ hN hN2 hB']
 rw [←hins]
 generalize qci (fun r=>qH (qad t.2.2.1 r) (qad t.2.2.1 row)) rows=q at *
 obtain ⟨i,b⟩:=q
 simp only at s1 s2 s3⊢
 cases b with
 |false=>simp [qwG N rows i row s1 (by omega),qf,qh,qxY]
 |true=>
  have hi:i<rows.length:=by
   rcases Nat.lt_or_ge i rows.length with h|h
   ·exact h
   ·have:=s2 (by omega); cases this
  simp [qK hi,qxY]
def qm7 (s:qe) (inst:List qb2) (cs:List qcL):Int:=if qmv s≠0 then qmv s else if qej s inst≠0 then qej s inst else if 24<cs.length then 2 else match qac (cdA s inst cs) cs.length with
 |some e=>e
 |none=>0
def qng (s:qe) (inst:List qb2) (cs:List qcL):List qb2:=if qm7 s inst cs=0 then stA s inst cs cs.length else []
theorem qxQ {s:qe} {c:qcL} {rels:List qb2} {e:Int} (h:qkA s c rels=some e):e≠0:=by
 unfold qkA at h
 split at h
 ·rename_i hv; injection h with h; rw [←h]; exact hv
 ·unfold quc at h
  split at h
  ·split at h
   ·injection h with h; omega
   ·cases h
  ·split at h
   ·cases h
   ·injection h with h; omega
theorem qxr (s:qe) (inst:List qb2) (cs:List qcL):∀i e,cdA s inst cs i=some e→e≠0:=fun i e h=>by
 unfold cdA at h
 split at h
 ·cases h
 ·exact qxQ h
theorem qpu (s:qe) (inst:List qb2) (cs:List qcL) (h0:qmv s=0) (h1:qej s inst=0) (h2:¬24<cs.length):
  (qac (cdA s inst cs) cs.length=none∧qm7 s inst cs=0∧qng s inst cs=stA s inst cs cs.length)∨∃e,qac (cdA s inst cs) cs.length=some e∧qm7 s inst cs=e∧e≠0∧qng s inst cs=[]:=by
 have hv:qm7 s inst cs=match qac (cdA s inst cs) cs.length with
  |some e=>e
  |none=>0:=by
  unfold qm7
  rw [if_neg (by omega),if_neg (by omega),if_neg h2]
 cases hf:qac (cdA s inst cs) cs.length with
 |none=>
  rw [hf] at hv
  exact .inl ⟨rfl,hv,by unfold qng; rw [if_pos hv]⟩
 |some e=>
  rw [hf] at hv
  obtain ⟨i,_,hi,_⟩:=qc7 hf
  have hne:=qxr s inst cs i e hi
  exact .inr ⟨e,rfl,hv,hne,by unfold qng; rw [if_neg (by rw [hv]; exact hne)]⟩
theorem qxj (N:Nat) (s:qe) (inst:List qb2) (cs:List qcL) (h:qkb N s inst cs):qcc N (s,(inst,(cs,())))=some ((qng s inst cs,(qm7 s inst cs,())),()):=by
 have hB:=h.hB
 have hB':N≤1099511627776:=by omega
 have hcn:=h.cc.n
 simp only [qcc,qG,qrc N s h.ss,qma N s inst h.ss h.ri,qrw N inst h.ri hB',qf,qh,cond_true,qnQ]
 by_cases h0:qmv s≠0
 ·have e1:qm7 s inst cs=qmv s:=by unfold qm7; rw [if_pos h0]
  have e2:qng s inst cs=[]:=by unfold qng; rw [e1,if_neg h0]
  rw [e1,e2,neT h0]; rfl
 rw [neF (by omega:qmv s=0),cond_false]
 by_cases h1:qej s inst≠0
 ·have e1:qm7 s inst cs=qej s inst:=by unfold qm7; rw [if_neg h0,if_pos h1]
  have e2:qng s inst cs=[]:=by unfold qng; rw [e1,if_neg h1]
  rw [e1,e2,neT h1]; rfl
 rw [neF (by omega:qej s inst=0),cond_false]
 by_cases h2:24<cs.length
 ·have e1:qm7 s inst cs=2:=by unfold qm7; rw [if_neg h0,if_neg h1,if_pos h2]
  have e2:qng s inst cs=[]:=by unfold qng; rw [e1]; rfl
  rw [e1,e2,decide_eq_true h2]; rfl
 rw [decide_eq_false h2,cond_false]
 have hv:=qnr (s:=s) (by omega)
 have hk:=qhN hv.tabs
 have hC:=qpQ (s:=s) (rels:=inst) (by omega)
 have hst:=h.ss.sm.t
 refine (qaj (S:=List qb2×(Int×Unit)) (fun i=>(stA s inst cs i,((i:Int),()))) cs.length (cdA s inst cs) (fun e=>some ((([]:List qb2),(e,())),())) (some ((stA s inst cs cs.length,(0,())),())) rfl (fun i hi hf ih=> ?_) (fun _ ih=> ?_) (by omega)).trans ?_
 ·have hm:=List.getElem_mem hi
  have hCi:=qft (cs:=cs) hC i
  have hRi:=h.rsm hC i
  rw [qxU hi,qx7 hi]
  simp only [qaW hi,qK hi,cond_true,qF _ hi,qQ (show i<4611686018427387904 by omega),qnF N s _ h.ss hk (h.cc.key _ hm) (h.cc.row _ hm),qf,qh]
  have hcr:=h.cc.row _ hm
  generalize cs[i]=c at *
  unfold qkA
  by_cases hv0:qkT s c≠0
  ·rw [if_pos hv0,neT hv0]; rfl
  rw [if_neg hv0,neF (by omega:qkT s c=0),cond_false]
  obtain ⟨hi2,e1,e2,e3,e4⟩:=qrt (s:=s) (c:=c) (by omega)
  have hir:ixT s c<(stA s inst cs i).length:=by rw [hCi.len]; exact hi2
  have ht:=h.ss.tab (qdb e2)
  have g:∀d,qi s.1 ((ixT s c:Nat):Int) d=qeT s c.2.1:=fun d=>by rw [qF _ hi2,e1]
  have hrl:(qkn (stA s inst cs i) (ixT s c)).length<N:=by rw [qd0 hir]; exact hRi.rows _ (List.getElem_mem hir)
  have hrr:∀r∈qkn (stA s inst cs i) (ixT s c),r.length≤1099511627776:=fun r hr=>by
   rw [qd0 hir] at hr
   have:=hRi.row _ (List.getElem_mem hir) r hr
   omega
  have hok:=hCi.ok _ hir hi2
  rw [e1,←qd0 hir] at hok
  have erow:∀d,d=relZ→(qi (stA s inst cs i) ((ixT s c:Nat):Int) d).2.1=qkn (stA s inst cs i) (ixT s c):=fun d hd=>by rw [hd]; rfl
  have erow':=erow relZ rfl
  have hins:∀z:qb2,inB ((ixT s c:Nat):Int) (qn (qbZ (stA s inst cs i) ((ixT s c:Nat):Int) z))=true:=fun z=>qK (by rw [qbj,List.length_set]; exact hir)
  have hget:∀z d:qb2,qi (qbZ (stA s inst cs i) ((ixT s c:Nat):Int) z) ((ixT s c:Nat):Int) d=z:=fun z d=>by
   rw [qF _ (by rw [qbj,List.length_set]; exact hir)]
   simp [qbj]
  have up:=quP N (qeT s c.2.1) (qkn (stA s inst cs i) (ixT s c)) c.2.2.2.1 ht.k hrl hB hrr (by omega)
  have de:=qqK N (qeT s c.2.1) (qkn (stA s inst cs i) (ixT s c)) c.2.2.1 ht.k hrl hB hrr hok.2.2
  simp only [qfv N s c.2.1 hst hB',e3,Option.getD_some,qf,qh,cond_true,qK hi2,qK hir,g,erow',up,de,hins,hget,Bool.and_self,Bool.true_and,qnQ]
  unfold quc qrW qmg
  by_cases q:c.1=1
  ·simp only [q,eqT (rfl:(1:Int)=1),cond_true,if_true]
   by_cases h24:24<(qqz (qeT s c.2.1).2.2.1 c.2.2.2.1 (qkn (stA s inst cs i) (ixT s c))).length
   ·simp only [h24,decide_true,cond_true,if_true]
   ·simp only [h24,decide_false,cond_false,if_false,if_true,qrW,q]
    rfl
  ·simp only [eqF q,cond_false,if_neg q]
   by_cases ha:(qkn (stA s inst cs i) (ixT s c)).any (fun r=>decide (qad (qeT s c.2.1).2.2.1 r=c.2.2.1))=true
   ·simp only [ha,Bool.not_true,cond_false,if_true,qrW,if_neg q]
    rfl
   ·have ha':(qkn (stA s inst cs i) (ixT s c)).any (fun r=>decide (qad (qeT s c.2.1).2.2.1 r=c.2.2.1))=false:=by simpa using ha
    simp only [ha',Bool.not_false,cond_true,Bool.false_eq_true,if_false]
 ·simp only
  rw [qD (qax (Nat.lt_irrefl _))]
 ·rcases qpu s inst cs (by omega) (by omega) h2 with ⟨f1,f2,f3⟩|⟨e,f1,f2,_,f3⟩
  ·rw [f1,f2,f3]
  ·rw [f1,f2,f3]
end
end Go.Proofs.YtfcdfdnlgfebmaaGreatDoor
namespace Go.Proofs.YtfcdfdnlgfebmaaGreatDoor
open Go.Vi
noncomputable section
theorem qp2 (N:Nat) (xs:List qaa) (φ:(qaa×Unit)→Option (Bool×Unit)) (q:qaa→Bool) (hφ:∀a∈xs,φ (a,())=some (q a,())) (hN:xs.length<N) (hB:N≤1000000000):
  qaL N (xs,(φ,()))=some ((xs.filter (fun r=> !q r),()),()):=by
 have hix:qap N (xs,(φ,()))=some ((qmn q xs,()),()):=qfp φ q xs hφ ([]:qaa) N hN (by omega)
 simp only [qaL,hix,qG,qf,qh,cond_true]
 unfold qmn
 cases hq:qke q xs with
 |none=>
  have:=qk2 hq
  simp only [eqT (rfl:(-1:Int)= -1),cond_true]
  rw [List.filter_eq_self.2 fun r hr=>by simp [this r hr]]
 |some i0=>
  obtain ⟨hi0,h1,h2⟩:=qhZ hq
  simp only [eqF (show ¬((i0:Int)= -1) by omega),cond_false]
  have htk:xs.take i0=(xs.take i0).filter (fun r=> !q r):=(List.filter_eq_self.2 fun r hr=>by
   obtain ⟨j,hj,rfl⟩:=List.getElem_of_mem hr
   rw [List.length_take] at hj
   rw [List.getElem_take,h2 j (by omega)]; rfl).symm
  refine qas (S:=List qaa×(Int×(Int×Unit))) (fun p=>xs.length - p.2.2.1.toNat) (fun p=>∃i j:Nat,p.2.1=(i:Int)∧p.2.2.1=(j:Int)∧i<j∧j≤xs.length∧p.1.length=xs.length∧p.1.take i=(xs.take j).filter (fun r=> !q r)∧p.1.drop j=xs.drop j)
   (fun r=>r=some ((xs.filter (fun r=> !q r),()),())) ?_ N _ ⟨i0,i0+1,rfl,by rw [qQ (by omega)],by omega,by omega,rfl,?_,rfl⟩ (by rw [qQ (by omega)]; simp only [Int.toNat_natCast]; omega)
  ·rintro ih ⟨ys,_,_,⟨⟩⟩ ⟨i,j,rfl,rfl,hij,hj,hl,ht,hd⟩ hih
   simp only at hl ht hd hih⊢
   by_cases hjl:j<xs.length
   ·have hjy:j<ys.length:=by omega
    have hyj:ys[j]=xs[j]:=by
     have e1:=List.drop_eq_getElem_cons hjy
     have e2:=List.drop_eq_getElem_cons hjl
     rw [hd,e2] at e1
     injection e1 with e1 _
     exact e1.symm
    have hdd:ys.drop (j+1)=xs.drop (j+1):=by
     have:=congrArg (List.drop 1) hd
     rwa [List.drop_drop,List.drop_drop] at this
    have hiy:i<ys.length:=by omega
    have hm:=List.getElem_mem hjl
    simp only [qaW hjy,qK hjy,qK hiy,cond_true,qF _ hjy,hyj,hφ _ hm,qf,qh,qQ (show i<4611686018427387904 by omega),qQ (show j<4611686018427387904 by omega),qbj,Int.toNat_natCast]
    cases hqj:q xs[j] with
    |true=>
     simp only [Bool.not_true,cond_false,cond_true]
     refine hih _ ⟨i,j+1,rfl,rfl,by omega,by omega,hl,?_,hdd⟩ (by simp only [Int.toNat_natCast]; omega)
     simp only
     rw [ht,qba hjl,List.filter_append]
     simp [hqj]
    |false=>
     simp only [Bool.not_false,cond_true]
     refine hih _ ⟨i+1,j+1,rfl,rfl,by omega,by omega,by simp only [List.length_set]; exact hl,?_,?_⟩ (by simp only [Int.toNat_natCast]; omega)
     ·simp only
      rw [qba (by rw [List.length_set]; exact hiy),qba hjl,List.filter_append,←ht]
      have e3:(ys.set i xs[j]).take i=ys.take i:=by rw [List.take_set]; exact List.set_eq_of_length_le (by rw [List.length_take]; omega)
      rw [e3]
      simp [hqj]
     ·simp only
      rw [List.drop_set_of_lt (by omega)]
      exact hdd
   ·have hje:j=xs.length:=by omega
    subst hje
    have hly:qn ys=(xs.length:Int):=by rw [qj,hl]
    have e4:qar (qfn (qar ys 0 (i:Int)) (qfn (qqy (α:=qaa) (qT .i64 (qn ys) (i:Int)) ([]:qaa)) (qar ys (qn ys) (qn ys)))) 0 (i:Int)=ys.take i:=by
     rw [hly,qam (by omega) (by omega)]
     simp only [qcj,qbo,qg8,Int.toNat_natCast,Int.toNat_zero,List.drop_zero]
     rw [List.take_append_of_le_length (by rw [List.length_take]; omega),List.take_take,Nat.min_self]
    have e5:inS (i:Int) (qn ys) (qn ys)=true:=qsR (by omega)
    have e6:inS 0 (i:Int) (qn (qfn (qar ys 0 (i:Int)) (qfn (qqy (α:=qaa) (qT .i64 (qn ys) (i:Int)) ([]:qaa)) (qar ys (qn ys) (qn ys)))))=true:=by
     rw [hly,qam (by omega) (by omega),qjj,qj]
     simp only [qcj,qbo,qg8,Int.toNat_natCast,List.length_append,List.length_drop,List.length_take,List.length_replicate]
     refine decide_eq_true ?_
     omega
    have e7:ltI ((xs.length:Nat):Int) (qn ys)=false:=by rw [hly]; exact ltF (by omega)
    simp only [e7,cond_false,e5,e6,cond_true,e4]
    rw [ht,List.take_length]
  ·simp only
   rw [qba hi0,List.filter_append,←htk]
   simp [h1]
abbrev phiS (N:Nat) (t:qs):(qaa×(qaa×Unit))→Option (Int×Unit):=fun x2=>(qf7 (fun y3:((Int×Unit)×Unit)=>(y3.1.1,())) (qbF N (x2.1,(x2.2.1,(t,())))))
theorem cmpS (N:Nat) (t:qs) (hk:t.2.2.1.length<N) (hB:N≤1099511627776):Cmp (fun _:qaa=>True) (phiS N t) (fun a b=>¬qH (qad t.2.2.1 b) (qad t.2.2.1 a)<0) where
 ans a b _ _:=by
  have hl:∀r,(qad t.2.2.1 r).length<N:=fun r=>by rw [qeA]; exact hk
  refine ⟨qH (qad t.2.2.1 a) (qad t.2.2.1 b),?_,by simp⟩
  simp only [phiS,qbF,qjJ N t _ hk hB,qeK N _ _ (hl a) hB,qf,qh,Bool.and_self,cond_true,qck,Option.map_some]
 tot a b _ _:=by
  by_cases h:qH (qad t.2.2.1 b) (qad t.2.2.1 a)<0
  ·right; intro h2; exact qbT _ (qbP _ _ _ h h2)
  ·exact .inl h
 trans a b c _ _ _ h1 h2 h3:=by
  by_cases e:qH (qad t.2.2.1 b) (qad t.2.2.1 a)<0
  ·exact h1 e
  ·by_cases e2:qH (qad t.2.2.1 a) (qad t.2.2.1 b)<0
   ·exact h2 (qbP _ _ _ h3 e2)
   ·rw [qv2 e2 e] at h3; exact h2 h3
theorem qra (N:Nat) (xs:List qaa) (h:xs.length≤1099511627776):qa1 N (xs,())=some ((xs,()),()):=qq2 xs 24 (by omega)
theorem qsa (N:Nat) (t:qs) (R P:List qaa) (hk:t.2.2.1.length<N) (hB:N≤1099511627776) (hl:2 * R.length+100<N) (hp:R.Perm P) (hs:qdI t.2.2.1 P):qcD N (t,(R,()))=some ((P,()),()):=by
 obtain ⟨out,o1,o2,o3⟩:=qub ([]:qaa) (cmpS N t hk hB) (xs:=R) (by omega) hl (fun _ _=>trivial)
 have e:out=P:=qoN (o2.trans hp) (List.pairwise_iff_getElem.2 fun i j hi hj hij=>by
  have h:=o3 i j (by omega) (by omega) (by rw [←o2.length_eq]; omega)
  rw [qF _ hi,qF _ hj] at h
  exact h) hs
 subst e
 have o1':qbi N (R,((fun x2=>(qf7 (fun y3:((Int×Unit)×Unit)=>(y3.1.1,())) (qbF N (x2.1,(x2.2.1,(t,())))))),()))=some ((),(out,())):=o1
 simp only [qcD,qra N R (by omega),qG,qf,qh,cond_true,o1']
abbrev RMap:Type:=List (List UInt8×List qaa)
def qw6 (rels:List qb2):Nat→RMap
 |0=>[]
 |n+1=>match rels[n]? with
  |none=>qw6 rels n
  |some r=>qlT (qw6 rels n) r.1 r.2.1
def qyg (t:qs) (c:qcL) (R:List qaa):List qaa:=if c.1=1 then qjQ t.2.2.1 (qmJ t c) R++[c.2.2.2.1] else qjQ t.2.2.1 (qmJ t c) R
def mA (s:qe) (inst:List qb2) (cs:List qcL):Nat→RMap
 |0=>qw6 inst inst.length
 |n+1=>match cs[n]? with
  |none=>mA s inst cs n
  |some c=>if qkA s c (stA s inst cs n)=none then qlT (mA s inst cs n) c.2.1 (qyg (qeT s c.2.1) c (qge (mA s inst cs n) c.2.1 [])) else mA s inst cs n
def RelM (s:qe) (rels:List qb2) (M:RMap):Prop:=∀i (hi:i<s.1.length),(qge M (s.1[i]).1 []).Perm (qkn rels i)
theorem qs7 {s:qe} (hv:qj2 s) {i j:Nat} (hi:i<s.1.length) (hj:j<s.1.length) (h:i≠j):(s.1[i]).1≠(s.1[j]).1:=fun e=>by
 rcases Nat.lt_or_gt_of_ne h with q|q
 ·have:=List.pairwise_iff_getElem.1 hv.names i j hi hj q
  rw [e,qnZ] at this; cases this
 ·have:=List.pairwise_iff_getElem.1 hv.names j i hj hi q
  rw [e,qnZ] at this; cases this
theorem qtn {s:qe} {rels:List qb2} (hv:qj2 s) (hC:qtt s rels):(n:Nat)→n≤rels.length→∀i (hi:i<s.1.length),i<n→qge (qw6 rels n) (s.1[i]).1 []=qkn rels i
 |0,_,_,_,h=>by omega
 |n+1,hn,i,hi,h=>by
  have hnr:n<rels.length:=by omega
  have hns:n<s.1.length:=by rw [←hC.len]; exact hnr
  simp only [qw6,List.getElem?_eq_getElem hnr]
  rw [qhJ,hC.name n hnr hns]
  by_cases e:n=i
  ·subst e
   rw [if_pos rfl,qd0 hnr]
  ·rw [if_neg (qs7 hv hns hi e)]
   exact qtn hv hC n (by omega) i hi (by omega)
theorem qsY {t:qs} {c:qcL} {P R:List qaa} (hp:R.Perm P) (hs:qdI t.2.2.1 P):(qyg t c R).Perm (qrW t c P):=by
 unfold qyg qrW qmJ
 by_cases q:c.1=1
 ·rw [if_pos q,if_pos q,if_pos q]
  exact ((hp.filter _).append_right _).trans (qqS hs).symm
 ·rw [if_neg q,if_neg q,if_neg q]
  exact hp.filter _
theorem quG {s:qe} {inst:List qb2} {cs:List qcL} (hv:qj2 s) (hC:qtt s inst):(n:Nat)→RelM s (stA s inst cs n) (mA s inst cs n)
 |0=>fun i hi=>by
  simp only [mA,stA]
  rw [qtn hv hC inst.length (Nat.le_refl _) i hi (by rw [hC.len]; exact hi)]
 |n+1=>by
  have ih:=quG (cs:=cs) hv hC n
  have hCn:=qft (cs:=cs) hC n
  intro i hi
  simp only [mA,stA]
  cases hc:cs[n]? with
  |none=>exact ih i hi
  |some c=>
   simp only
   by_cases hcode:qkA s c (stA s inst cs n)=none
   ·rw [if_pos hcode,if_pos hcode]
    have hv0:qkT s c=0:=by
     unfold qkA at hcode
     split at hcode
     ·cases hcode
     ·rename_i h; simpa using h
    obtain ⟨hi2,e1,e2,e3,e4⟩:=qrt hv0
    have hir:ixT s c<(stA s inst cs n).length:=by rw [hCn.len]; exact hi2
    have hjr:i<(stA s inst cs n).length:=by rw [hCn.len]; exact hi
    have hok:=hCn.ok _ hir hi2
    rw [e1,←qd0 hir] at hok
    rw [qhJ]
    rw [qd0 (by rw [qmg,qjP]; exact hjr)]
    simp only [qmg,qpJ _ hir hjr]
    by_cases q:ixT s c=i
    ·subst q
     rw [if_pos (by rw [e1,e4]),if_pos rfl]
     have h2:=ih _ hi2
     rw [e1,e4] at h2
     exact qsY h2 hok.2.2
    ·rw [if_neg q,if_neg (fun e=>qs7 hv hi2 hi q (by rw [e1,e4]; exact e))]
     have:=ih i hi
     rwa [qd0 hjr] at this
   ·rw [if_neg hcode,if_neg hcode]
    exact ih i hi
theorem qw2 {l P:List qaa} (h:l.Perm P) (q:qaa→Bool):l.any q=P.any q:=by
 rw [Bool.eq_iff_iff,List.any_eq_true,List.any_eq_true]
 exact ⟨fun ⟨x,hx,hq⟩=>⟨x,h.mem_iff.1 hx,hq⟩,fun ⟨x,hx,hq⟩=>⟨x,h.mem_iff.2 hx,hq⟩⟩
theorem qvc (N:Nat) (s:qe) (inst:List qb2) (cs:List qcL) (h:qkb N s inst cs) (hid:∀f∈s.2.1,(fkC f).length≤1099511627776):qbf N (s,(inst,(cs,())))=some ((qng s inst cs,(qm7 s inst cs,())),()):=by
 have hB:=h.hB
 have hB':N≤1099511627776:=by omega
 have hcn:=h.cc.n
 have hmm:=h.hN
 simp only [qbf,qG,qrM N s h.ss hid,quq N s inst h.ss h.ri,qf,qh,cond_true,qnQ]
 by_cases h0:qmv s≠0
 ·have e1:qm7 s inst cs=qmv s:=by unfold qm7; rw [if_pos h0]
  have e2:qng s inst cs=[]:=by unfold qng; rw [e1,if_neg h0]
  rw [e1,e2,neT h0]; rfl
 rw [neF (by omega:qmv s=0),cond_false]
 by_cases h1:qej s inst≠0
 ·have e1:qm7 s inst cs=qej s inst:=by unfold qm7; rw [if_neg h0,if_pos h1]
  have e2:qng s inst cs=[]:=by unfold qng; rw [e1,if_neg h1]
  rw [e1,e2,neT h1]; rfl
 rw [neF (by omega:qej s inst=0),cond_false]
 by_cases h2:24<cs.length
 ·have e1:qm7 s inst cs=2:=by unfold qm7; rw [if_neg h0,if_neg h1,if_pos h2]
  have e2:qng s inst cs=[]:=by unfold qng; rw [e1]; rfl
  rw [e1,e2,decide_eq_true h2]; rfl
 rw [decide_eq_false h2,cond_false]
 have hv:=qnr (s:=s) (by omega)
 have hk:=qhN hv.tabs
 have hC:=qpQ (s:=s) (rels:=inst) (by omega)
 have hst:=h.ss.sm.t
 refine qfP (S:=RMap×(Int×Unit)) (fun i=>(qw6 inst i,((i:Int),()))) inst.length _ rfl (fun i hi ih=> ?_) (fun ih=> ?_) h.ri.n
 ·have e1:qw6 inst (i+1)=qlT (qw6 inst i) (inst[i]).1 (inst[i]).2.1:=by simp only [qw6,List.getElem?_eq_getElem hi]
  rw [e1]
  have hrn:=h.ri.n
  simp only [qaW hi,qK hi,cond_true,qF _ hi,qQ (show i<4611686018427387904 by omega)]
 simp only
 rw [qD (qax (Nat.lt_irrefl _))]
 refine (qaj (S:=RMap×(Int×Unit)) (fun i=>(mA s inst cs i,((i:Int),()))) cs.length (cdA s inst cs) (fun e=>some ((([]:List qb2),(e,())),())) (some ((stA s inst cs cs.length,(0,())),())) rfl (fun i hi hf ih=> ?_) (fun _ ih=> ?_) (by omega)).trans ?_
 ·have hm:=List.getElem_mem hi
  have hCi:=qft (cs:=cs) hC i
  have hRi:=h.rsm hC i
  have hrel:=quG (cs:=cs) hv hC i
  have hfrom:=qlh (s:=s) (cs:=cs) hC i
  have e1:mA s inst cs (i+1)=if qkA s cs[i] (stA s inst cs i)=none then qlT (mA s inst cs i) (cs[i]).2.1 (qyg (qeT s (cs[i]).2.1) cs[i] (qge (mA s inst cs i) (cs[i]).2.1 [])) else mA s inst cs i:=by
   simp only [mA,List.getElem?_eq_getElem hi]
  rw [e1,qx7 hi]
  have hcr:=h.cc.row _ hm
  have hce:=h.cc.et _ hm
  simp only [qaW hi,qK hi,cond_true,qF _ hi,qQ (show i<4611686018427387904 by omega),qn7 N s _ h.ss hk (h.cc.key _ hm) (h.cc.row _ hm),qf,qh]
  generalize cs[i]=c at *
  unfold qkA
  by_cases hv0:qkT s c≠0
  ·rw [if_pos hv0,neT hv0]; rfl
  have hv1:qkT s c=0:=by omega
  rw [if_neg hv0,neF hv1,cond_false]
  obtain ⟨hi2,e1,e2,e3,e4⟩:=qrt hv1
  have hir:ixT s c<(stA s inst cs i).length:=by rw [hCi.len]; exact hi2
  have ht:=h.ss.tab (qdb e2)
  have htm:=qdb e2
  have hok:=hCi.ok _ hir hi2
  rw [e1,←qd0 hir] at hok
  have hp:=hrel _ hi2
  rw [e1,e4] at hp
  have etg:qx5 s c=qmJ (qeT s c.2.1) c:=rfl
  have hRl:(qge (mA s inst cs i) c.2.1 ([]:List qaa)).length≤24:=by rw [hp.length_eq]; exact hok.1
  have hRe:∀r∈qge (mA s inst cs i) c.2.1 ([]:List qaa),(qdD (qad (qeT s c.2.1).2.2.1 r)).length≤1099511627776:=fun r hr=>by
   have hr2:=hp.mem_iff.1 hr
   rw [qd0 hir] at hr2
   exact (h.row (hfrom _ (List.getElem_mem hir) r hr2)).2.2 _ htm
  have hany:=qw2 hp (fun r=>decide (qad (qeT s c.2.1).2.2.1 r=qmJ (qeT s c.2.1) c))
  have hlen:=hp.length_eq
  have hnp:=(qsY (c:=c) hp hok.2.2).length_eq
  generalize qge (mA s inst cs i) c.2.1 ([]:List qaa)=R at *
  generalize qkn (stA s inst cs i) (ixT s c)=P at *
  have af:=qsm N s c h.ss e2
  rw [etg] at af
  have en:=qdk N _ (hce _ htm)
  have df:qaL N (R,((fun x8=>(qf7 (fun y9:((Bool×Unit)×Unit)=>(y9.1.1,())) (qbr N (x8.1,(some (qeT s c.2.1),(qdD (qmJ (qeT s c.2.1) c),())))))),()))=some ((qjQ (qeT s c.2.1).2.2.1 (qmJ (qeT s c.2.1) c) R,()),()):=
   qp2 N R _ (fun r=>decide (qad (qeT s c.2.1).2.2.1 r=qmJ (qeT s c.2.1) c)) (fun a ha=>by
    simp only [qbr,qf,qh,qjJ N _ _ ht.k hB',qdk N _ (hRe a ha),Bool.and_self,cond_true,qck,Option.map_some,quY]) (by omega) hB
  have hol:(qjQ (qeT s c.2.1).2.2.1 (qmJ (qeT s c.2.1) c) R).length≤R.length:=List.length_filter_le _ _
  have hlk:=qw4 (pk:=(qeT s c.2.1).2.2.1) (k:=qmJ (qeT s c.2.1) c) (rows:=R)
  have rm:qcQ (qn (qjQ (qeT s c.2.1).2.2.1 (qmJ (qeT s c.2.1) c) R)) (qn ([c.2.2.2.1]:List qaa)) 24=true:=qdZ (by simp only [List.length_cons,List.length_nil]; omega)
  simp only [qgl N s c.2.1 hst hB',e2,af,en,qra N R (by omega),df,qf,qh,cond_true,Bool.and_self,rm]
  unfold quc
  rcases qwv hv1 with q|q
  ·have q2:¬c.1=2:=by omega
   simp only [q,eqT (rfl:(1:Int)=1),eqF (show ¬(1:Int)=2 by omega),Bool.false_and,cond_false,cond_true,if_true,qbo,qnQ]
   have e5:qyg (qeT s c.2.1) c R=qjQ (qeT s c.2.1).2.2.1 (qmJ (qeT s c.2.1) c) R++[c.2.2.2.1]:=by unfold qyg; rw [if_pos q]
   rw [e5] at hnp⊢
   rw [hnp]
   by_cases h24:24<(qrW (qeT s c.2.1) c P).length
   ·simp only [h24,decide_true,cond_true,if_true]
   ·simp only [h24,decide_false,cond_false,if_false,if_true]
  ·have q2:¬c.1=1:=by omega
   have e5:qyg (qeT s c.2.1) c R=qjQ (qeT s c.2.1).2.2.1 (qmJ (qeT s c.2.1) c) R:=by unfold qyg; rw [if_neg q2]
   have etk:qmJ (qeT s c.2.1) c=c.2.2.1:=by unfold qmJ; rw [if_neg q2]
   have hle:eqI (qn (qjQ (qeT s c.2.1).2.2.1 (qmJ (qeT s c.2.1) c) R)) (qn R)= !(P.any (fun r=>decide (qad (qeT s c.2.1).2.2.1 r=c.2.2.1))):=by
    rw [qbC,qj,qj,←etk,←hany]
    cases ha:R.any (fun r=>decide (qad (qeT s c.2.1).2.2.1 r=qmJ (qeT s c.2.1) c)) with
    |true=>
     refine decide_eq_false fun e=> ?_
     have:=hlk.1 (by omega)
     rw [ha] at this; cases this
    |false=>
     refine decide_eq_true ?_
     have:=hlk.2 ha
     omega
   have h24:¬24<(qjQ (qeT s c.2.1).2.2.1 (qmJ (qeT s c.2.1) c) R).length:=by omega
   rw [e5,hle]
   simp only [q,eqT (rfl:(2:Int)=2),eqF (show ¬(2:Int)=1 by omega),Bool.true_and,cond_false,cond_true,qnQ,h24,decide_false,show ¬(2:Int)=1 by omega,if_false]
   cases P.any (fun r=>decide (qad (qeT s c.2.1).2.2.1 r=c.2.2.1)) with
   |true=>simp only [Bool.not_true,cond_false,if_true]
   |false=>simp only [Bool.not_false,cond_true,Bool.false_eq_true,if_false]
 ·simp only
  rw [qD (qax (Nat.lt_irrefl _))]
  have hCi:=qft (cs:=cs) hC cs.length
  have hrel:=quG (cs:=cs) hv hC cs.length
  generalize mA s inst cs cs.length=M at *
  generalize stA s inst cs cs.length=A at *
  simp only [qvS N s h.ss,qf,qh,cond_true]
  have hel:(qgL s).length=s.1.length:=by unfold qgL; rw [List.length_map]
  refine qfP (S:=RMap×(List qb2×(Int×Unit))) (fun i=>(M,(A.take i++(qgL s).drop i,((i:Int),())))) s.1.length _ (by simp) (fun i hi ih=> ?_) (fun ih=> ?_) hst
  ·have hia:i<A.length:=by rw [hCi.len]; exact hi
   have hok:=hCi.ok i hia hi
   have hp:=hrel i hi
   rw [qd0 hia] at hp
   have ht:=h.ss.tab (List.getElem_mem hi)
   have hsr:=qsa N s.1[i] (qge M (s.1[i]).1 []) (A[i]).2.1 ht.k hB' (by rw [hp.length_eq]; have:=hok.1; omega) hp hok.2.2
   have hl:i<(A.take i++(qgL s).drop i).length:=by rw [List.length_append,List.length_take,List.length_drop]; omega
   have hg:(A.take i++(qgL s).drop i)[i]=((s.1[i]).1,(([]:List qaa),())):=by
    rw [List.getElem_append_right (by rw [List.length_take]; omega)]
    simp [qgL,List.length_take,Nat.min_eq_left (Nat.le_of_lt hia)]
   have hset:(A.take i++(qgL s).drop i).set i ((s.1[i]).1,((A[i]).2.1,()))=A.take (i+1)++(qgL s).drop (i+1):=by
    rw [List.set_append_right _ _ (by rw [List.length_take]; omega),List.length_take,Nat.min_eq_left (Nat.le_of_lt hia),Nat.sub_self,List.drop_eq_getElem_cons (show i<(qgL s).length by omega),List.set_cons_zero,qba hia,List.append_assoc]
    have e6:A[i]=((s.1[i]).1,((A[i]).2.1,())):=by
     have:=hCi.name i hia hi
     rw [←this]
    rw [←e6]; rfl
   simp only [qaW hi,qK hi,cond_true,qF _ hi,hsr,qK hl,qF _ hl,hg,qf,qh,Bool.and_self,qbj,Int.toNat_natCast,hset,qQ (show i<4611686018427387904 by omega)]
  ·simp only
   rw [qD (qax (Nat.lt_irrefl _))]
   have e7:A.take s.1.length++(qgL s).drop s.1.length=A:=by
    rw [←hCi.len,List.take_length,List.drop_eq_nil_of_le (by rw [hel,hCi.len]; exact Nat.le_refl _),List.append_nil]
   rw [e7]
 ·rcases qpu s inst cs (by omega) (by omega) h2 with ⟨f1,f2,f3⟩|⟨e,f1,f2,_,f3⟩
  ·rw [f1,f2,f3]
  ·rw [f1,f2,f3]
theorem qkb.dsm {s:qe} {inst:List qb2} {cs:List qcL} {N:Nat} (h:qkb N s inst cs) (hC:qtt s inst) (hN:1000<N) (hNB:N≤10000000) (n:Nat):qpv N s (stA s inst cs n) inst:=by
 have hCn:=qft (cs:=cs) hC n
 have hR:=h.rsm hC n
 have tot:∀rels:List qb2,qtt s rels→qkX rels≤24 * rels.length:=fun rels hc=>by
  have:∀l:List qb2,(∀r∈l,r.2.1.length≤24)→qkX l≤24 * l.length:=fun l=>by
   induction l with
   |nil=>intro _; simp [qkX]
   |cons r rs ih=>
    intro hh
    have h1:=hh r List.mem_cons_self
    have h2:=ih fun x hx=>hh x (List.mem_cons_of_mem _ hx)
    have e:qkX (r::rs)=r.2.1.length+qkX rs:=by simp [qkX]
    rw [e,List.length_cons]; omega
  refine this rels fun r hr=> ?_
  obtain ⟨j,hj,rfl⟩:=List.getElem_of_mem hr
  exact (hc.ok j hj (by rw [←hc.len]; exact hj)).1
 refine ⟨h.ss,hR,h.ri,fun r hr row hrow t ht=>(h.row (qlh hC n r hr row hrow)).2.2 t ht,h.ki.kt,h.hB,fun m=> ?_,fun i x y hx hy=> ?_⟩
 ·have h1:=qlm s (stA s inst cs n) inst m
  have h2:=qh0 (stA s inst cs n) m
  have h3:=qh0 inst m
  have h4:=tot _ hCn
  have h5:=tot _ hC
  have h6:=hR.n
  have h7:=h.ri.n
  omega
 ·obtain ⟨hi,rfl⟩:=List.getElem?_eq_some_iff.1 hx
  obtain ⟨hj,rfl⟩:=List.getElem?_eq_some_iff.1 hy
  have h1:=(hCn.ok i hi (by rw [←hCn.len]; exact hi)).1
  have h2:=(hC.ok i hj (by rw [←hC.len]; exact hj)).1
  omega
theorem qt4 {s:qe} {inst:List qb2} {cs:List qcL} {N:Nat} (h:qkb N s inst cs):qf8 N (qng s inst cs):=by
 have hm:=h.ss.m
 unfold qng
 split
 ·rename_i hv
  have hc:qej s inst=0:=by
   unfold qm7 at hv
   split at hv
   ·omega
   ·split at hv
    ·omega
    ·omega
  exact h.rsm (qpQ hc) _
 ·exact ⟨by simp; omega,fun r hr=>(by cases hr),fun r hr=>(by cases hr),fun r hr=>(by cases hr)⟩
theorem law34 (x:qe×(List qb2×(List qcL×Unit))) (hg:qou [qal,.slice qE,.slice qZ] x) (hb:qms [qal,.slice qE,.slice qZ] x≤1048576):∃N z,qbg N x=some ((true,()),z):=by
 obtain ⟨s,inst,cs,⟨⟩⟩:=x
 have gs:qwL.good s:=hg.1
 have ga:(Ty.slice qmS).good inst:=hg.2.1
 have gb:(Ty.slice qtk).good cs:=hg.2.2.1
 have hb':qwL.bulk s+((Ty.slice qmS).bulk inst+((Ty.slice qtk).bulk cs+0))≤1048576:=hb
 have ea:(Ty.slice qmS).bulk inst=(inst.map qmS.bulk).sum+1:=rfl
 have ec:(Ty.slice qtk).bulk cs=(cs.map qtk.bulk).sum+1:=rfl
 have ia:=qv6 (b:=(inst.map qmS.bulk).sum) ga (by omega)
 have h:qkb 5000000 s inst cs:=⟨(qru (by omega)).mono (by omega) (by omega),(qn0 ia (by omega)).mono (by omega),qoL ia (by omega),qvp gb (by omega),by omega,by omega⟩
 have bf:∀f∈s.2.1,TFk.bulk f≤1048576:=fun f hf=>by
  obtain ⟨a,b,c,⟨⟩⟩:=s
  rw [qlB] at hb'
  have:=qhr TFk.bulk hf
  simp only at this
  omega
 have gf:∀f∈s.2.1,TFk.good f:=by
  obtain ⟨a,b,c,⟨⟩⟩:=s
  exact gs.2.1.2
 have hid:∀f∈s.2.1,(fkC f).length≤1099511627776:=fun f hf=>by have:=qsO (gf f hf); have:=bf f hf; omega
 obtain ⟨N,hNe⟩:∃N,N=5000000:=⟨_,rfl⟩
 rw [←hNe] at h
 have hn:N≤1099511627776:=by omega
 have hcn:=h.cc.n
 refine ⟨N,(),?_⟩
 have a1:=qxj N s inst cs h
 have a2:=qvc N s inst cs h hid
 have hos:=qt4 h
 have a3:=qxu N (qng s inst cs) (qng s inst cs) hos hos hn
 have v1:=qrM N s h.ss hid
 have l1:∀k:Int,eqI k k=true:=fun k=>eqT rfl
 have l2:∀k:Int,neI k k=false:=fun k=>neF rfl
 have e0:eqI (qn ([]:List qcL)) 0=true:=by rw [qj]; exact eqT rfl
 simp only [qbg,qG,a1,a2,a3,v1,l2,qf,qh,cond_true,Bool.or_true,decide_true,Bool.not_true,Bool.or_self,cond_false]
 by_cases hv:qm7 s inst cs≠0
 ·have inv:qa8 N (s,(inst,(cs,())))=some ((([]:List qcL),(qm7 s inst cs,())),()):=by
   simp only [qa8,qG,a1,qf,qh,cond_true,neT hv]
  simp only [inv,qf,qh,cond_true,neT hv,l1,e0,Bool.and_self]
  by_cases hs:qmv s=0
  ·rw [eqT hs,cond_true]
   have hvv:=qnr hs
   have hk:=qhN hvv.tabs
   refine qfP (S:=Int×Unit) (fun i=>((i:Int),())) cs.length _ rfl (fun i hi ih=> ?_) (fun ih=> ?_) (by omega)
   ·have hm:=List.getElem_mem hi
    simp only [qaW hi,qK hi,cond_true,qF _ hi,qQ (show i<4611686018427387904 by omega),qnF N s _ h.ss hk (h.cc.key _ hm) (h.cc.row _ hm),qn7 N s _ h.ss hk (h.cc.key _ hm) (h.cc.row _ hm),qf,qh,Bool.and_self,l2,cond_false]
   ·simp only
    rw [qD (qax (Nat.lt_irrefl _))]
  ·rw [eqF hs,cond_false]
 have hv0:qm7 s inst cs=0:=by omega
 have hout:qng s inst cs=stA s inst cs cs.length:=by unfold qng; rw [if_pos hv0]
 have hs:qmv s=0:=by
  unfold qm7 at hv0
  split at hv0
  ·omega
  ·omega
 have hc:qej s inst=0:=by
  unfold qm7 at hv0
  split at hv0
  ·omega
  ·split at hv0
   ·omega
   ·omega
 have hC:=qpQ hc
 have hD:=h.dsm hC (by omega) (by omega) cs.length
 have hCn:=(qft (cs:=cs) hC cs.length).vconf
 have d1:=qt3 N s (stA s inst cs cs.length) inst hD
 have hvd:qvl s (stA s inst cs cs.length) inst=0:=by unfold qvl; rw [if_neg (by omega),if_neg (by omega)]; exact hc
 rw [hvd] at d1
 simp only [ne_eq,not_true_eq_false,if_false] at d1
 have d2:=qr6 N s (stA s inst cs cs.length) inst hD (qn1 hCn) (qn1 hc)
 have he:=hD.esm s.1.length
 have hlen:(qhb s (stA s inst cs cs.length) inst s.1.length).length<N:=by
  have h1:=qlm s (stA s inst cs cs.length) inst s.1.length
  have hst:=h.ss.sm.t
  have h6:qmv s=0:=hs
  unfold qmv at h6
  split at h6
  ·cases h6
  rename_i h7
  have h8:s.1.length≤6:=by omega
  have tot:∀rels:List qb2,qtt s rels→qkX (rels.take s.1.length)≤24 * 6:=fun rels hcc=>by
   have:∀l:List qb2,(∀r∈l,r.2.1.length≤24)→qkX l≤24 * l.length:=fun l=>by
    induction l with
    |nil=>intro _; simp [qkX]
    |cons r rs ih=>
     intro hh
     have h1:=hh r List.mem_cons_self
     have h2:=ih fun x hx=>hh x (List.mem_cons_of_mem _ hx)
     have e:qkX (r::rs)=r.2.1.length+qkX rs:=by simp [qkX]
     rw [e,List.length_cons]; omega
   have h9:=this rels fun r hr=>by
    obtain ⟨j,hj,rfl⟩:=List.getElem_of_mem hr
    exact (hcc.ok j hj (by rw [←hcc.len]; exact hj)).1
   have h10:=qh0 rels s.1.length
   have:=hcc.len
   omega
  have h11:=tot _ (qft (cs:=cs) hC cs.length)
  have h12:=tot _ hC
  omega
 have d3:=eqChgs N _ _ he he hlen hn
 have inv:qa8 N (s,(inst,(cs,())))=some ((qhb s (stA s inst cs cs.length) inst s.1.length,(0,())),()):=by
  simp only [qa8,qG,a1,hv0,hout,d1,qf,qh,cond_true,l2,cond_false]
 simp only [inv,hv0,hout,d2,d3,qf,qh,cond_true,l1,l2,cond_false,Bool.or_true,Bool.and_self,decide_true]
 rw [eqT hs,cond_true]
 have hvv:=qnr hs
 have hk:=qhN hvv.tabs
 refine qfP (S:=Int×Unit) (fun i=>((i:Int),())) cs.length _ rfl (fun i hi ih=> ?_) (fun ih=> ?_) (by omega)
 ·have hm:=List.getElem_mem hi
  simp only [qaW hi,qK hi,cond_true,qF _ hi,qQ (show i<4611686018427387904 by omega),qnF N s _ h.ss hk (h.cc.key _ hm) (h.cc.row _ hm),qn7 N s _ h.ss hk (h.cc.key _ hm) (h.cc.row _ hm),qf,qh,Bool.and_self,l2,cond_false]
 ·simp only
  rw [qD (qax (Nat.lt_irrefl _))]
end
end Go.Proofs.YtfcdfdnlgfebmaaGreatDoor
