import Derived.Test.YtfcdfdnlgfebmaaGreatDoorFnsG
import Derived.Test.YtfcdfdnlgfebmaaGreatDoorViXD
import Derived.Test.YtfcdfdnlgfebmaaGreatDoorViXE
set_option linter.unusedVariables false
set_option linter.unusedSimpArgs false
set_option linter.unnecessarySimpa false
set_option linter.unusedSectionVars false
set_option linter.unusedSimpArgs false
set_option maxRecDepth 100000
namespace Go.Proofs.YtfcdfdnlgfebmaaGreatDoor
open Go.Vi
noncomputable section
def qhf (c:UInt8):Bool:=decide (97≤c.toNat)&&decide (c.toNat≤122)
def qh7 (c:UInt8):Bool:=decide (48≤c.toNat)&&decide (c.toNat≤57)
def nameOk (s:List UInt8):Bool:=match s with
 |[]=>false
 |c::r=>decide ((c::r).length≤12)&&(qhf c&&r.all fun c=>qhf c||qh7 c)
theorem qff (c:UInt8):qcC c=(c.toNat:Int):=qfR c
theorem quk (c:UInt8):(ltI (qcC c) 97||ltI 122 (qcC c))= !qhf c:=by
 rw [qff,qbi,qbi,qhf]
 rw [Bool.eq_iff_iff]
 simp only [Bool.or_eq_true,decide_eq_true_eq,Bool.not_eq_true',Bool.and_eq_false_iff,decide_eq_false_iff_not]
 omega
theorem qtD (c:UInt8):(ltI (qcC c) 48||ltI 57 (qcC c))= !qh7 c:=by
 rw [qff,qbi,qbi,qh7]
 rw [Bool.eq_iff_iff]
 simp only [Bool.or_eq_true,decide_eq_true_eq,Bool.not_eq_true',Bool.and_eq_false_iff,decide_eq_false_iff_not]
 omega
def qjr (av:List Bool) (c:UInt8):Bool:=qf av (qcC c) false
theorem qmx (N:Nat) (av:List Bool) (c:UInt8):qav N (av,(qcC c,()))=some ((qjr av c,()),(av,())):=by
 simp only [qav]
 rw [qG (by rw [qff,qdc]; have:=c.toNat_lt; simp; omega)]
 rfl
theorem qq1 (N:Nat) (av:List Bool) (s:List UInt8) (hN:s.length<N):qbC N (s,(av,()))=some ((s.dropWhile (qjr av),()),(av,())):=by
 simp only [qbC]
 refine qeK (S:=(List UInt8)×((List Bool)×Unit)) (R:=((List UInt8)×Unit)×((List Bool)×Unit)) (fun p=>p.1.length) (fun p=>p.2.1=av) (fun p=>((p.1.dropWhile (qjr av),()),(av,()))) ?_ N _ rfl hN
 rintro ih ⟨s,av',_⟩ h2 hih
 simp only at h2 hih⊢
 subst h2
 cases s with
 |nil=>rw [qM (by rw [qbi,qr]; rfl)]; rfl
 |cons c r=>
  have hg:qf (c::r) 0 0=c:=qiT (i:=0) rfl
  rw [qG (by rw [qbi,qr]; simp)]
  simp only [hg,qmx,qd,qg,Bool.and_true]
  rw [qG (show inB 0 (qn (c::r))=true from qZ (i:=0) (by simp))]
  by_cases h:qjr av' c=true
  ·rw [qM (by simp [h]),qG (show inS 1 (qn (c::r)) (qn (c::r))=true from qrl (i:=1) (by simp)),show qaI (c::r) 1 (qn (c::r))=r from qss _ 1,hih (r,(av',())) rfl (by simp)]
   simp [List.dropWhile_cons,h]
  ·rw [qG (by simpa using h)]
   simp [List.dropWhile_cons,h]
def qlN (p:UInt8→Bool) (s:List UInt8):List UInt8:=(s.reverse.dropWhile p).reverse
theorem qr2 (p:UInt8→Bool) (s:List UInt8) (c:UInt8):qlN p (s++[c])=if p c=true then qlN p s else s++[c]:=by
 simp only [qlN,List.reverse_append,List.reverse_cons,List.reverse_nil,List.nil_append,List.cons_append,List.dropWhile_cons]
 split <;> simp
theorem qpb (N:Nat) (av:List Bool) (s:List UInt8) (hN:s.length<N) (hl:s.length<4000000000000000000):qay N (s,(av,()))=some ((qlN (qjr av) s,()),(av,())):=by
 simp only [qay]
 refine qeK (S:=(List UInt8)×((List Bool)×Unit)) (R:=((List UInt8)×Unit)×((List Bool)×Unit)) (fun p=>p.1.length) (fun p=>p.2.1=av∧p.1.length<4000000000000000000) (fun p=>((qlN (qjr av) p.1,()),(av,()))) ?_ N _ ⟨rfl,hl⟩ hN
 rintro ih ⟨s,av',_⟩ ⟨h2,h3⟩ hih
 simp only at h2 h3 hih⊢
 subst h2
 rcases List.eq_nil_or_concat s with rfl|⟨r,c,rfl⟩
 ·rw [qM (by rw [qbi,qr]; rfl)]; rfl
 ·rw [List.concat_eq_append] at h3 hih⊢
  simp only [List.length_append,List.length_cons,List.length_nil] at h3
  have el:qE .i64 (qn (r++[c])) 1=(r.length:Int):=by
   have e:((r++[c]).length:Int)=(r.length:Int)+1:=by simp
   rw [qr,e,qak (by omega) (by omega)]; omega
  have hg:qf (r++[c]) (r.length:Int) 0=c:=qiT (by simp)
  rw [qG (by rw [qbi,qr]; simp)]
  simp only [el,hg,qmx,qd,qg,Bool.and_true]
  rw [qG (qZ (by simp)),qr2]
  by_cases h:qjr av' c=true
  ·rw [qM (by simp [h]),qG (by rw [qkX,qr]; simp; omega),ql0,if_pos h]
   have e:(r++[c]).take r.length=r:=by simp
   rw [e,hih (r,(av',())) ⟨rfl,by simp only; omega⟩ (by simp)]
  ·rw [qG (by simpa using h),if_neg h]
theorem qkv {p:UInt8→Bool} :(s:List UInt8)→(s.dropWhile p=[]↔s.all p=true)
 |[]=>by simp
 |c::r=>by
  rw [List.dropWhile_cons,List.all_cons]
  by_cases h:p c=true
  ·rw [if_pos h,qkv r,h]; simp
  ·rw [if_neg h]; simp [h]
theorem qkk {p:UInt8→Bool} :(s:List UInt8)→(s.dropWhile p).all p=s.all p
 |[]=>rfl
 |c::r=>by
  rw [List.dropWhile_cons]
  by_cases h:p c=true
  ·rw [if_pos h,qkk r]; simp [h]
  ·rw [if_neg h]
theorem qvi {p:UInt8→Bool} (s:List UInt8):((qlN p s).dropWhile p=[])↔s.all p=true:=by
 rw [qkv,qlN,List.all_reverse,qkk,List.all_reverse]
def qey:List UInt8:=[97,98,99,100,101,102,103,104,105,106,107,108,109,110,111,112,113,114,115,116,117,118,119,120,121,122,48,49,50,51,52,53,54,55,56,57]
def qsi (i:Nat):List Bool:=(qey.take i).foldl (fun av c=>av.set c.toNat true) (List.replicate 256 false)
theorem qwj:∀m:Fin 256,(qsi 36).getD m.val false=((decide (97≤m.val)&&decide (m.val≤122))||(decide (48≤m.val)&&decide (m.val≤57))):=by decide+kernel
theorem qot:∀c∈qey,c.toNat<128:=by decide+kernel
theorem qvy (c:UInt8):qjr (qsi 36) c=(qhf c||qh7 c):=by
 rw [qjr,qff,qfB,Int.toNat_natCast]
 exact qwj ⟨c.toNat,c.toNat_lt⟩
theorem qrY (N:Nat) (hN:40<N):qam N (qey,())=some ((qsi 36,(true,())),()):=by
 simp only [qam]
 refine qmq (S:=(List Bool)×(Int×Unit)) (fun i=>(qsi i,((i:Int),()))) 36 _ rfl ?_ ?_ (by omega)
 ·intro i hi ih
  have hl:i<qey.length:=hi
  have hg:qf qey (i:Int) 0=qey[i]:=qiT (List.getElem?_eq_getElem hl)
  have hs:=qot qey[i] (List.getElem_mem hl)
  rw [qG (qbt hl),qG (qZ hl),hg,qM (by rw [qbd,qff]; simp; omega),qG (by rw [qff,qdc]; simp; omega),qao (by omega)]
  have e:qsi (i+1)=(qsi i).set qey[i].toNat true:=by
   rw [qsi,qee hl,List.foldl_append]; rfl
  simp only [e,qcD,qff,Int.toNat_natCast]
 ·intro ih
  rw [qM (qaX (show ¬36<qey.length by decide))]
theorem qv7 (N:Nat) (s:List UInt8) (hs:s≠[]) (hl:s.length<4000000000000000000) (hN:s.length+40<N):qdG N (s,(qey,()))=some (((qlN (qjr (qsi 36)) s).dropWhile (qjr (qsi 36)),()),()):=by
 have hrl:(qlN (qjr (qsi 36)) s).length≤s.length:=by
  have:∀(p:UInt8→Bool) (l:List UInt8),(l.dropWhile p).length≤l.length:=fun p l=>(List.dropWhile_sublist p).length_le
  rw [qlN,List.length_reverse]
  exact Nat.le_trans (this _ _) (by simp)
 simp only [qdG,qJ,qrY N (by omega),qd,qg,cond_true,qpb N _ s (by omega) hl,qq1 N _ (qlN (qjr (qsi 36)) s) (by omega),Bool.and_self]
 rw [qM (by rw [qbg,qbg]; simp [hs,qey]),qG (by rw [show eqI (qn qey) 1=false from by rw [qb7,qr]; rfl]; rfl),qM (by rw [show eqI (qn qey) 1=false from by rw [qb7,qr]; rfl]; rfl)]
def az:List UInt8:=[97,98,99,100,101,102,103,104,105,106,107,108,109,110,111,112,113,114,115,116,117,118,119,120,121,122]
theorem az_is:∀m:Fin 256,decide (0≤Lib.indexByte az (UInt8.ofNat m.val))=(decide (97≤m.val)&&decide (m.val≤122)):=by decide+kernel
theorem qu4 (c:UInt8):leI 0 (Lib.indexByte az c)=qhf c:=by
 have:=az_is ⟨c.toNat,c.toNat_lt⟩
 simp only [UInt8.ofNat_toNat] at this
 rw [qbd,this,qhf]
theorem qqp (N:Nat) (c:UInt8):qb4 N (az,([c],()))=some ((qhf c,()),()):=by
 simp only [qb4,qea,qbz,qoo,qd,qg,cond_true,qu4]
theorem qnY (N:Nat) (s:List UInt8) (hN:100<N):qa8 N (s,())=some ((nameOk s,()),()):=by
 simp only [qa8]
 cases s with
 |nil=>
  have e:eqS ([]:List UInt8) []=true:=by rw [qbg]; simp
  simp only [e]
  rfl
 |cons c r=>
  have e1:eqS (c::r) []=false:=by rw [qbg]; simp
  have e2:leI (qn (c::r)) 12=decide ((c::r).length≤12):=by rw [qbd,qr]; exact decide_eq_decide.2 (by omega)
  have e3:inS 0 1 (qn (c::r))=true:=by rw [qoq,qr]; simp; omega
  have e4:qaI (c::r) 0 1=[c]:=by rw [qcF]; rfl
  have e5:=qqp N c
  unfold az at e5
  rw [e1,e2,e3,e4,e5]
  by_cases h:(c::r).length≤12
  ·have e6:=qv7 N (c::r) (by simp) (by omega) (by omega)
   unfold qey at e6
   rw [e6]
   simp only [h,decide_true,Bool.not_false,Bool.true_and,Bool.and_true,Bool.not_true,Bool.false_or,qd,qg,Bool.or_true,cond_true]
   congr 3
   rw [qbg,nameOk]
   simp only [h,decide_true,Bool.true_and]
   have key:decide ((qlN (qjr (qsi 36)) (c::r)).dropWhile (qjr (qsi 36))=[])=(c::r).all (fun c=>qhf c||qh7 c):=by
    rw [Bool.eq_iff_iff,decide_eq_true_iff,qvi]
    simp only [List.all_eq_true,qvy]
   rw [key,List.all_cons]
   cases qhf c <;> simp
  ·have h':decide ((c::r).length≤12)=false:=decide_eq_false h
   rw [nameOk]
   simp only [h',Bool.and_false,Bool.false_and,Bool.not_false,Bool.true_or,Bool.and_self,cond_true]
theorem qlF (N:Nat) (s:List UInt8) (hl:s.length≤4000000000000000000) (hN:s.length<N):qbF N (s,())=some ((nameOk s,()),()):=by
 simp only [qbF,qJ]
 cases s with
 |nil=>
  have e1:ltI (qn ([]:List UInt8)) 1=true:=by rw [qbi,qr]; rfl
  simp [e1,nameOk]
 |cons c r=>
  have hg:qf (c::r) 0 0=c:=qiT (i:=0) rfl
  have e1:ltI (qn (c::r)) 1=false:=by rw [qbi,qr]; simp; omega
  have e2:ltI 12 (qn (c::r))= !decide ((c::r).length≤12):=by
   rw [qbi,qr]
   by_cases h:(c::r).length≤12
   ·simp only [h,decide_true,Bool.not_true,decide_eq_false_iff_not]; omega
   ·simp only [h,decide_false,Bool.not_false,decide_eq_true_eq]; omega
  have e3:inB 0 (qn (c::r))=true:=qZ (i:=0) (by simp)
  have e4:(leI 48 (qcC c)&&leI (qcC c) 57)=qh7 c:=by
   rw [qff,qbd,qbd,qh7]
   congr 1 <;> exact decide_eq_decide.2 (by omega)
  rw [e1,e2,e3,hg,e4]
  simp only [Bool.or_true,Bool.and_self,cond_true]
  by_cases h:(c::r).length≤12
  ·simp only [h,decide_true,Bool.not_true,Bool.or_self,Bool.false_or]
   by_cases hd:qh7 c=true
   ·have hlow:qhf c=false:=by
     simp only [qh7,qhf,Bool.and_eq_true,decide_eq_true_eq] at hd⊢
     simp; omega
    rw [hd,cond_true,nameOk,hlow]
    simp
   ·have hd:qh7 c=false:=by simpa using hd
    rw [hd,cond_false]
    refine (qan (S:=Int×Unit) (R:=(Bool×Unit)×Unit) (fun i=>((i:Int),())) (c::r).length (fun i=>if h:i<(c::r).length then (if qhf (c::r)[i]||qh7 (c::r)[i] then none else some ()) else none) (fun _=>some ((false,()),())) (some ((true,()),())) rfl (fun i hi _ ih=> ?_) (fun _ ih=> ?_) hN).trans ?_
    rotate_left
    rotate_left
    ·have key:(qaf (fun i=>if h:i<(c::r).length then (if qhf (c::r)[i]||qh7 (c::r)[i] then none else some ()) else none) (c::r).length).isNone=(c::r).all (fun c=>qhf c||qh7 c):=by
      rw [Bool.eq_iff_iff,List.all_eq_true]
      constructor
      ·intro hn x hx
       obtain ⟨i,hi,rfl⟩:=List.getElem_of_mem hx
       have:=qa3 (Option.isNone_iff_eq_none.1 hn) i hi
       rw [dif_pos hi] at this
       by_cases hb:(qhf (c::r)[i]||qh7 (c::r)[i])=true
       ·exact hb
       ·rw [if_neg hb] at this; cases this
      ·intro ha
       rw [Option.isNone_iff_eq_none]
       cases hf:qaf (fun i=>if h:i<(c::r).length then (if qhf (c::r)[i]||qh7 (c::r)[i] then none else some ()) else none) (c::r).length with
       |none=>rfl
       |some u=>
        obtain ⟨i,hi,hg,_⟩:=qcS hf
        rw [dif_pos hi,if_pos (ha _ (List.getElem_mem hi))] at hg
        cases hg
     rw [nameOk]
     simp only [h,decide_true,Bool.true_and]
     rw [List.all_cons,hd,Bool.or_false] at key
     rw [←key]
     cases qaf (fun i=>if h:i<(c::r).length then (if qhf (c::r)[i]||qh7 (c::r)[i] then none else some ()) else none) (c::r).length <;> rfl
    ·have hlb:qn (qfv (c::r))=qn (c::r):=by rw [qr,qr,qdT,List.length_map]
     have hgi:qf (qfv (c::r)) (i:Int) 0=qcC (c::r)[i]:=by
      rw [qdT]
      exact qiT (by rw [List.getElem?_map,List.getElem?_eq_getElem hi]; rfl)
     simp only
     rw [hlb,qG (qbt hi),qG (qZ hi),hgi,quk,qtD,qao (by omega),dif_pos hi]
     cases qhf (c::r)[i] <;> cases qh7 (c::r)[i] <;> rfl
    ·have hlb:qn (qfv (c::r))=qn (c::r):=by rw [qr,qr,qdT,List.length_map]
     simp only
     rw [hlb,qM (qaX (Nat.lt_irrefl _))]
  ·have h':decide ((c::r).length≤12)=false:=decide_eq_false h
   rw [nameOk]
   simp only [h',Bool.not_false,Bool.false_and,Bool.false_or,Bool.true_or,cond_true]
end
end Go.Proofs.YtfcdfdnlgfebmaaGreatDoor
namespace Go.Proofs.YtfcdfdnlgfebmaaGreatDoor
open Go.Vi
noncomputable section
theorem qri (N:Nat) (s:List UInt8) (h:(qer s).length≤1099511627776):qbn N (s,())=some ((qer s,()),()):=by
 have hl:(Lib.itoa (s.length:Int)).length+1+s.length≤1099511627776:=by
  unfold qer at h
  simp only [List.length_append,List.length_cons] at h
  omega
 simp only [qbn,qbj,qd,qg,Bool.true_and,qr s,qcy]
 rw [qs6 (by omega) (by simp)]
 rw [←qr s,qs6 (by rw [qr]; simp only [List.length_append,List.length_cons,List.length_nil]; omega) (by omega)]
 rw [qr]
 simp [qer]
theorem qoX {α:Type} (f:α→List UInt8) (l:List α) (i:Nat):(((l.take i).map f).flatten).length≤((l.map f).flatten).length:=by
 have e:l.map f=(l.take i).map f++(l.drop i).map f:=by rw [←List.map_append,List.take_append_drop]
 rw [e,List.flatten_append,List.length_append]
 omega
theorem qsM {α:Type} (f:α→List UInt8) (l:List α) {i:Nat} (hi:i<l.length):((l.take (i+1)).map f).flatten=((l.take i).map f).flatten++f l[i]:=by
 rw [qee hi,List.map_append,List.flatten_append,List.map_cons,List.map_nil,List.flatten_cons,List.flatten_nil,List.append_nil]
theorem qm1 (N:Nat) (f:qH) (hN:f.2.1.length<N) (h:(fkC f).length≤1099511627776) (hb:f.2.1.length≤1099511627776):qbE N (f,())=some ((fkC f,()),()):=by
 obtain ⟨t,cs,r,⟨⟩⟩:=f
 simp only at hN hb
 have h0:(qer t).length+(qer r).length+(qhR cs).length≤1099511627776:=by
  unfold fkC at h
  simp only [List.length_append] at h
  omega
 simp only [qbE,qJ]
 rw [qri N t (by omega),qri N r (by omega)]
 simp only [qd,qg,Bool.true_and]
 rw [qG (qs6 (by omega) (by omega))]
 refine qmq (S:=qby) (fun i=>(qer t++(qer r++qhR (cs.take i)),((i:Int),()))) cs.length _ (by simp [qcy,qhR]) (fun i hi ih=> ?_) (fun ih=> ?_) hN
 ·have h1:(qhR (cs.take (i+1))).length≤(qhR cs).length:=qoX _ _ _
  have e1:qhR (cs.take (i+1))=qhR (cs.take i)++44::Lib.itoa cs[i]:=qsM _ _ hi
  rw [e1,List.length_append,List.length_cons] at h1
  simp only
  rw [qG (qbt hi),qZ hi,cond_true,qX _ hi]
  simp only [qbj,qd,qg,Bool.true_and,qcy]
  rw [qs6 (by simp) (by omega),qs6 (by simp only [List.length_append]; omega) (by simp only [List.length_append,List.length_cons,List.length_nil]; omega)]
  simp only [Bool.and_self,cond_true]
  rw [qao (by omega),e1]
  simp
 ·simp only
  rw [qM (qaX (Nat.lt_irrefl _)),List.take_length]
  rfl
theorem qmA (N:Nat) (r:List qb) (h:(qeA r).length≤1099511627776):qaU N (r,())=some ((qeA r,()),()):=by
 rw [qaU,if_pos h]
set_option synthInstance.maxHeartbeats 400000 in
set_option synthInstance.maxSize 4000 in
instance decTable:DecidableEq qz:=inferInstance
set_option synthInstance.maxHeartbeats 400000 in
set_option synthInstance.maxSize 4000 in
instance dec0:DecidableEq qb:=inferInstance
set_option synthInstance.maxHeartbeats 400000 in
set_option synthInstance.maxSize 4000 in
instance dec1:DecidableEq qV:=inferInstance
instance dec2:DecidableEq qH:=inferInstance
instance dec3:DecidableEq (List qV×Unit):=instDecidableEqProd
instance dec4:DecidableEq (List qH×(List qV×Unit)):=instDecidableEqProd
instance decSch:DecidableEq qc:=instDecidableEqProd
theorem qs8 (N:Nat) (xs ys:List Int) (hN:xs.length<N) (hb:xs.length≤1099511627776):qcw N (xs,(ys,()))=some ((decide (xs=ys),()),()):=by
 simp only [qcw]
 by_cases hl:xs.length=ys.length
 ·rw [qM (by rw [qaW,qr,qr,hl]; simp)]
  exact qmI (ne:=neI) (fun a b=>qaW a b) xs ys 0 hl hb hN
 ·rw [qG (by rw [qaW,qr,qr]; simp; omega)]
  have:xs≠ys:=fun h=>hl (by rw [h])
  simp [this]
theorem qsv (N:Nat) (a b:qH) (hN:a.2.1.length<N) (hB:N≤1099511627776):qbe N (a,(b,()))=some ((decide (a=b),()),()):=by
 obtain ⟨a1,a2,a3,⟨⟩⟩:=a
 obtain ⟨b1,b2,b3,⟨⟩⟩:=b
 simp only at hN
 simp only [qbe,qs8 N a2 b2 hN (by omega),qd,qg,qbg,Bool.or_true,cond_true,Prod.mk.injEq,and_true,Bool.decide_and,Bool.and_assoc]
theorem qux {α:Type} [DecidableEq α] (f:(α×(α×Unit))→Option (Bool×Unit)) (xs ys:List α) (d:α) (hf:∀a∈xs,∀b,f (a,(b,()))=some (decide (a=b),())) (N:Nat) (hN:xs.length<N) (hb:xs.length≤1099511627776):
  (bif (neI (qn xs) (qn ys)) then (some ((false,()),())) else (qY (S:=(Int×Unit)) (R:=((Bool×Unit)×Unit)) N (fun ih0=>(fun p1=>(bif (ltI p1.1 (qn xs)) then (bif (inB p1.1 (qn xs)) then (bif (inB p1.1 (qn ys)) then (bif (qu (f ((qf xs p1.1 d),((qf ys p1.1 d),())))) then (bif (!(qh (f ((qf xs p1.1 d),((qf ys p1.1 d),()))) (false,())).1) then (some ((false,()),())) else (ih0 ((qI .i64 p1.1 1),()))) else none) else none) else none) else (some ((true,()),()))))) (0,())))=some ((decide (xs=ys),()),()):=by
 by_cases hl:xs.length=ys.length
 ·rw [qM (by rw [qaW,qr,qr,hl]; simp)]
  have:=qmI (ne:=fun (a b:α)=> !decide (a=b)) (fun a b=>rfl) xs ys d hl hb hN
  rw [←this]
  congr 1
  funext ih p
  by_cases hlt:ltI p.1 (qn xs)=true
  ·rw [hlt]
   simp only [cond_true]
   by_cases hin:inB p.1 (qn xs)=true
   ·have hin2:inB p.1 (qn ys)=true:=by rw [qr] at hin⊢; rw [←hl]; exact hin
    rw [hin,hin2]
    have hm:qf xs p.1 d∈xs:=by
     rw [qex,decide_eq_true_iff,qr] at hin
     rw [qfB,List.getD_eq_getElem?_getD,List.getElem?_eq_getElem (show p.1.toNat<xs.length by omega)]
     exact List.getElem_mem _
    simp only [cond_true,hf _ hm,qd,qg,Bool.and_self]
   ·simp [hin]
  ·simp [hlt]
 ·rw [qG (by rw [qaW,qr,qr]; simp; omega)]
  have:xs≠ys:=fun h=>hl (by rw [h])
  simp [this]
structure Small (N:Nat) (s:qc):Prop where
 n:N≤1099511627776
 t:s.1.length<N
 f:s.2.1.length<N
 c:s.2.2.1.length<N
 tc:∀t∈s.1,t.2.1.length<N
 tk:∀t∈s.1,t.2.2.1.length<N
 fc:∀f∈s.2.1,f.2.1.length<N
 tn:∀t∈s.1,t.1.length<N
 cn:∀t∈s.1,∀c∈t.2.1,c.1.length<N
end
end Go.Proofs.YtfcdfdnlgfebmaaGreatDoor
namespace Go.Proofs.YtfcdfdnlgfebmaaGreatDoor
open Go.Vi
noncomputable section
def atE {α:Type} (q:α→Bool) (xs:List α) (i:Nat):Option Nat:=match xs[i]? with
 |some x=>if q x=true then some i else none
 |none=>none
def qjU {α:Type} (q:α→Bool) (xs:List α):Option Nat:=qaf (atE q xs) xs.length
theorem qh5 {α:Type} {q:α→Bool} {xs:List α} {i:Nat} (h:qjU q xs=some i):∃hi:i<xs.length,q xs[i]=true∧∀j (hj:j<i),q (xs[j]'(by omega))=false:=by
 obtain ⟨k,h1,h2,h3⟩:=qcS h
 have hk:xs[k]? =some xs[k]:=List.getElem?_eq_getElem h1
 simp only [atE,hk] at h2
 split at h2
 ·rename_i hq
  injection h2 with h2
  subst h2
  refine ⟨h1,hq,fun j hj=> ?_⟩
  have:=qa3 h3 j hj
  simp only [atE,List.getElem?_eq_getElem (show j<xs.length by omega)] at this
  split at this
  ·cases this
  ·rename_i hn; simpa using hn
 ·cases h2
theorem qme {α:Type} {q:α→Bool} {xs:List α} (h:qjU q xs=none):∀x∈xs,q x=false:=fun x hx=>by
 obtain ⟨i,hi,rfl⟩:=List.getElem_of_mem hx
 have:=qa3 h i hi
 simp only [atE,List.getElem?_eq_getElem hi] at this
 split at this
 ·cases this
 ·rename_i hn; simpa using hn
def qkS {α:Type} (q:α→Bool) (xs:List α):Int:=match qjU q xs with
 |some i=>(i:Int)
 |none=> -1
theorem qe3 {α:Type} (f:(α×Unit)→Option (Bool×Unit)) (q:α→Bool) (xs:List α) (hf:∀a∈xs,f (a,())=some (q a,())) (d:α) (N:Nat) (hN:xs.length<N) (hb:xs.length≤1099511627776):
  (qY (S:=(Int×Unit)) (R:=((Int×Unit)×Unit)) N (fun ih0=>(fun p1=>(bif (ltI p1.1 (qn xs)) then (bif ((inB p1.1 (qn xs))&&(qu (f ((qf xs p1.1 d),())))) then (qL (qh (f ((qf xs p1.1 d),())) (false,())).1 (fun y2=>(bif y2 then (some ((p1.1,()),())) else (ih0 ((qI .i64 p1.1 1),()))))) else none) else (some (((-1),()),()))))) (0,()))=some ((qkS q xs,()),()):=by
 refine (qan (S:=Int×Unit) (fun i=>((i:Int),())) xs.length (atE q xs) (fun i=>some (((i:Int),()),())) (some ((-1,()),())) rfl (fun i hi _ ih=> ?_) (fun _ ih=> ?_) hN).trans ?_
 ·simp only [qJ]
  rw [qG (qbt hi),qX _ hi,hf _ (List.getElem_mem hi),qd,qg,Bool.and_true,qG (qZ hi),qao (by omega)]
  simp only [atE,List.getElem?_eq_getElem hi]
  cases q xs[i] <;> rfl
 ·simp only
  rw [qM (qaX (Nat.lt_irrefl _))]
 ·rw [qkS,qjU]
  cases qaf (atE q xs) xs.length <;> rfl
theorem qrB {α:Type} (q:α→Bool) (xs:List α):qvY (qkS q xs) 0=(((qjU q xs).getD 0:Nat):Int):=by
 rw [qkS,qoJ]
 cases qjU q xs with
 |none=>rfl
 |some i=>simp only [Option.getD_some]; split <;> omega
theorem qlh {α:Type} (q:α→Bool) (xs:List α):leI 0 (qkS q xs)=(qjU q xs).isSome:=by
 rw [qkS,qbd]
 cases qjU q xs with
 |none=>rfl
 |some i=>simp
def qnH (n:List UInt8) (c:qj):Bool:=decide (c.1=n)
def qdj (n:List UInt8) (t:qz):Bool:=decide (t.1=n)
theorem qoD (N:Nat) (t:qz) (n:List UInt8) (hN:t.2.1.length<N) (hB:N≤1099511627776):qcp N (t,(n,()))=some (((((qjU (qnH n) t.2.1).getD 0:Nat):Int),((qjU (qnH n) t.2.1).isSome,())),()):=by
 simp only [qcp,qJ]
 have h:=qe3 (fun x0=>(qf8 (fun y1:((Bool×Unit)×Unit)=>(y1.1.1,())) (qbw N (x0.1,(n,()))))) (qnH n) t.2.1 (fun a _=>by simp only [qbw,qbX,Option.map_some,qbg,qnH]) (([]:List UInt8),(0,(false,()))) N hN (by omega)
 rw [show qbk N (t.2.1,((fun x0=>(qf8 (fun y1=>(y1.1.1,())) (qbw N (x0.1,(n,()))))),()))=some ((qkS (qnH n) t.2.1,()),()) from h]
 simp only [qd,qg,cond_true,qrB,qlh]
theorem qcP (N:Nat) (s:qc) (n:List UInt8) (hN:s.1.length<N) (hB:N≤1099511627776):qF N (s,(n,()))=some (((((qjU (qdj n) s.1).getD 0:Nat):Int),((qjU (qdj n) s.1).isSome,())),()):=by
 simp only [qF,qJ]
 have h:=qe3 (fun x0=>(qf8 (fun y1:((Bool×Unit)×Unit)=>(y1.1.1,())) (qbH N (x0.1,(n,()))))) (qdj n) s.1 (fun a _=>by simp only [qbH,qbX,Option.map_some,qbg,qdj]) (([]:List UInt8),(([]:List qj),(([]:List Int),()))) N hN (by omega)
 rw [show qbx N (s.1,((fun x0=>(qf8 (fun y1=>(y1.1.1,())) (qbH N (x0.1,(n,()))))),()))=some ((qkS (qdj n) s.1,()),()) from h]
 simp only [qd,qg,cond_true,qrB,qlh]
def qfj (s:qc) (n:List UInt8):Option qz:=(qjU (qdj n) s.1).bind fun i=>s.1[i]?
theorem qfM (N:Nat) (s:qc) (n:List UInt8) (hN:s.1.length<N) (hB:N≤1099511627776):qx N (s,(n,()))=some ((qfj s n,()),()):=by
 simp only [qx]
 refine (qan (S:=Int×Unit) (fun i=>((i:Int),())) s.1.length (atE (qdj n) s.1) (fun i=>some ((s.1[i]?,()),())) (some ((none,()),())) rfl (fun i hi _ ih=> ?_) (fun _ ih=> ?_) hN).trans ?_
 ·simp only
  rw [qG (qbt hi),qZ hi,qX _ hi,qao (by omega),qbg]
  simp only [atE,List.getElem?_eq_getElem hi,qdj,cond_true,decide_eq_true_eq]
  by_cases hq:(s.1[i]).1=n <;> simp [hq]
 ·simp only
  rw [qM (qaX (Nat.lt_irrefl _))]
 ·rw [qfj,qjU]
  cases qaf (atE (qdj n) s.1) s.1.length <;> rfl
structure qpN (N:Nat) (t:qz):Prop where
 n:N≤1099511627776
 m:100<N
 nm:t.1.length<N
 c:t.2.1.length<N
 k:t.2.2.1.length<N
 cn:∀c∈t.2.1,c.1.length<N
open Classical in
def qvP (cs:List qj) (i:Nat):Option Int:=match cs[i]? with
 |none=>none
 |some c=>if nameOk c.1=false then some 23 else if c.1∈(cs.take i).map (fun c=>c.1) then some 5 else if c.2.1<1∨3<c.2.1 then some 7 else none
def qkj:qj:=(([]:List UInt8),(0,(false,())))
def pkE (cs:List qj) (ks:List Int) (i:Nat):Option Int:=match ks[i]? with
 |none=>none
 |some k=>if k<0∨(cs.length:Int)≤k∨(qf cs k qkj).2.2.1=true∨(0<i∧k≤ks.getD (i - 1) 0) then some 9 else none
def qsB (t:qz):Int:=if nameOk t.1=false then 23 else if t.2.1.length=0 then 3 else if 6<t.2.1.length then 2 else match qaf (qvP t.2.1) t.2.1.length with
 |some e=>e
 |none=>match qaf (pkE t.2.1 t.2.2.1) t.2.2.1.length with
  |some e=>e
  |none=>if t.2.2.1.length=0 then 9 else 0
theorem qvh {cs:List qj} {i:Nat} (hi:i<cs.length):ltI (((qjU (qnH (cs[i]).1) cs).getD 0:Nat):Int) (i:Int)=open Classical in decide ((cs[i]).1∈(cs.take i).map (fun c=>c.1)):=by
 rw [qcs]
 apply decide_eq_decide.2
 cases h:qjU (qnH (cs[i]).1) cs with
 |none=>
  have:=qme h cs[i] (List.getElem_mem hi)
  simp [qnH] at this
 |some j=>
  obtain ⟨hj,h1,h2⟩:=qh5 h
  simp only [Option.getD_some]
  constructor
  ·intro hlt
   refine List.mem_map.2 ⟨cs[j],?_,by simpa [qnH] using h1⟩
   exact List.mem_take_iff_getElem.2 ⟨j,by omega,rfl⟩
  ·intro hm
   obtain ⟨c,hc,he⟩:=List.mem_map.1 hm
   obtain ⟨k,hk,rfl⟩:=List.mem_take_iff_getElem.1 hc
   have hki:k<i:=by omega
   by_cases hjk:k<j
   ·have:=h2 k hjk
    simp [qnH,he] at this
   ·omega
theorem qua {α:Type} (xs:List α):eqI (qn xs) 0=decide (xs.length=0):=by
 rw [qb7,qr]; exact decide_eq_decide.2 (by omega)
theorem qlu {α:Type} (xs:List α) (n:Nat):ltI (n:Int) (qn xs)=decide (n<xs.length):=by
 rw [qbi,qr]; exact decide_eq_decide.2 (by omega)
theorem qqt (N:Nat) (t:qz) (h:qpN N t):qbO N (t,())=some ((qsB t,()),()):=by
 have hn:=h.n
 have hc:=h.c
 have hk:=h.k
 simp only [qbO,qJ]
 rw [qlF N t.1 (by have:=h.nm; omega) h.nm]
 simp only [qd,qg,cond_true,qua,show ltI 6 (qn t.2.1)=decide (6<t.2.1.length) from qlu _ 6]
 unfold qsB
 cases h1:nameOk t.1 with
 |false=>rfl
 |true=>
  simp only [Bool.not_true,cond_false,if_false,Bool.true_eq_false]
  by_cases h2:t.2.1.length=0
  ·simp [h2]
  by_cases h3:6<t.2.1.length
  ·simp [h2,h3]
  simp only [h2,h3,decide_false,cond_false,if_false]
  refine (qan (S:=Int×Unit) (fun i=>((i:Int),())) t.2.1.length (qvP t.2.1) (fun e=>some ((e,()),())) (match qaf (pkE t.2.1 t.2.2.1) t.2.2.1.length with
   |some e=>some ((e,()),())
   |none=>some ((if t.2.2.1.length=0 then 9 else 0,()),())) rfl (fun i hi _ ih=> ?_) (fun _ ih=> ?_) hc).trans ?_
  ·simp only
   have hm:(t.2.1[i]).1.length<N:=h.cn _ (List.getElem_mem hi)
   rw [qG (qbt hi),qG (qZ hi),qX _ hi,qlF N _ (by omega) hm,qoD N t _ hc hn,qao (by omega)]
   simp only [qd,qg,cond_true,qvh hi,qvP,List.getElem?_eq_getElem hi]
   cases nameOk (t.2.1[i]).1 with
   |false=>rfl
   |true=>
    simp only [Bool.not_true,cond_false,if_false,Bool.true_eq_false]
    by_cases h4:(t.2.1[i]).1∈(t.2.1.take i).map (fun c=>c.1)
    ·simp only [h4,decide_true,cond_true,if_true]
    ·simp only [h4,decide_false,cond_false,if_false]
     rw [qcs,qcs,←Bool.decide_or,qaY]
     split <;> rfl
  ·simp only
   rw [qM (qaX (Nat.lt_irrefl _))]
   refine (qan (S:=Int×Unit) (fun i=>((i:Int),())) t.2.2.1.length (pkE t.2.1 t.2.2.1) (fun e=>some ((e,()),())) (some ((if t.2.2.1.length=0 then 9 else 0,()),())) rfl (fun i hi _ ih=> ?_) (fun _ ih=> ?_) hk).trans ?_
   ·simp only
    rw [qG (qbt hi),qG (qZ hi),qX _ hi,qao (by omega)]
    simp only [pkE,List.getElem?_eq_getElem hi]
    have e1:ltI (t.2.2.1[i]) 0=decide (t.2.2.1[i]<0):=qcs _ _
    have e2:leI (qn t.2.1) (t.2.2.1[i])=decide ((t.2.1.length:Int)≤t.2.2.1[i]):=by rw [qf2,qr]
    have e3:inB (t.2.2.1[i]) (qn t.2.1)=(decide (0≤t.2.2.1[i])&&decide (t.2.2.1[i]<(t.2.1.length:Int))):=by rw [qdc,qr]
    have e4:ltI 0 (i:Int)=decide (0<i):=by rw [qcs]; exact decide_eq_decide.2 (by omega)
    rw [e1,e2,e3,e4]
    change (bif _ then (bif ((_||(qf t.2.1 (t.2.2.1[i]) qkj).2.2.1)||_) then _ else _) else _)=_
    by_cases h4:t.2.2.1[i]<0
    ·simp [h4]
    by_cases h5:(t.2.1.length:Int)≤t.2.2.1[i]
    ·simp [h4,h5]
    have h6:0≤t.2.2.1[i]:=by omega
    have h7:t.2.2.1[i]<(t.2.1.length:Int):=by omega
    by_cases h8:0<i
    ·have e5:inB (qE .i64 (i:Int) 1) (qn t.2.2.1)=true:=by rw [qak (by omega) (by omega),qex,qr]; simp; omega
     have e6:qf t.2.2.1 (qE .i64 (i:Int) 1) 0=t.2.2.1.getD (i - 1) 0:=by
      rw [qak (by omega) (by omega),qfB,show ((i:Int) - 1).toNat=i - 1 by omega]
     rw [e5,e6,qf2]
     generalize (qf t.2.1 (t.2.2.1[i]) qkj).2.2.1=bb
     generalize t.2.2.1.getD (i - 1) 0=pv
     cases bb <;> by_cases h9:t.2.2.1[i]≤pv <;> simp [h4,h5,h6,h7,h8,h9]
    ·generalize (qf t.2.1 (t.2.2.1[i]) qkj).2.2.1=bb
     cases bb <;> simp [h4,h5,h6,h7,h8]
   ·simp only
    rw [qM (qaX (Nat.lt_irrefl _)),qaY]
    split <;> rfl
   ·cases qaf (pkE t.2.1 t.2.2.1) t.2.2.1.length <;> rfl
  ·cases qaf (qvP t.2.1) t.2.1.length with
   |some e=>rfl
   |none=>cases qaf (pkE t.2.1 t.2.2.1) t.2.2.1.length <;> rfl
theorem qqS (N:Nat) (t:qz) (h:qpN N t):qbu N (t,())=some ((qsB t,()),()):=by
 have hn:=h.n
 have hc:=h.c
 have hk:=h.k
 have hm0:=h.m
 simp only [qbu,qJ]
 rw [qnY N t.1 hm0]
 simp only [qd,qg,cond_true,qua,show ltI 6 (qn t.2.1)=decide (6<t.2.1.length) from qlu _ 6]
 unfold qsB
 cases h1:nameOk t.1 with
 |false=>rfl
 |true=>
  simp only [Bool.not_true,cond_false,if_false,Bool.true_eq_false]
  by_cases h2:t.2.1.length=0
  ·simp [h2]
  by_cases h3:6<t.2.1.length
  ·simp [h2,h3]
  simp only [h2,h3,decide_false,cond_false,if_false]
  refine (qan (S:=(List ((List UInt8)×Int))×(Int×Unit)) (fun i=>(qqg ((t.2.1.take i).map (fun c=>c.1)),((i:Int),()))) t.2.1.length (qvP t.2.1) (fun e=>some ((e,()),())) (match qaf (pkE t.2.1 t.2.2.1) t.2.2.1.length with
   |some e=>some ((e,()),())
   |none=>some ((if t.2.2.1.length=0 then 9 else 0,()),())) rfl (fun i hi _ ih=> ?_) (fun _ ih=> ?_) hc).trans ?_
  ·simp only
   have hm:(t.2.1[i]).1.length<N:=h.cn _ (List.getElem_mem hi)
   have hlen:((t.2.1.take i).map (fun c=>c.1)).length<4611686018427387904:=by
    rw [List.length_map,List.length_take]; omega
   rw [qG (qbt hi),qG (qZ hi),qX _ hi,qnY N _ hm0,qnX _ hlen,qao (by omega),←qnd]
   have e0:(t.2.1.take i).map (fun c=>c.1)++[(t.2.1[i]).1]=(t.2.1.take (i+1)).map (fun c=>c.1):=by rw [qee hi,List.map_append]; rfl
   simp only [qd,qg,cond_true,qvP,List.getElem?_eq_getElem hi,e0]
   cases nameOk (t.2.1[i]).1 with
   |false=>rfl
   |true=>
    simp only [Bool.not_true,cond_false,if_false,Bool.true_eq_false]
    by_cases h4:(t.2.1[i]).1∈(t.2.1.take i).map (fun c=>c.1)
    ·simp only [h4,decide_true,cond_true,if_true]
    ·simp only [h4,decide_false,cond_false,if_false]
     rw [qcs,qcs,←Bool.decide_or,qaY]
     split <;> rfl
  ·simp only
   rw [qM (qaX (Nat.lt_irrefl _))]
   have hprev:∀i,i≤t.2.2.1.length→qaf (pkE t.2.1 t.2.2.1) i=none→0<i→0≤t.2.2.1.getD (i - 1) 0:=fun i hi hf h0=>by
    have hlt:i - 1<t.2.2.1.length:=by omega
    have:=qa3 hf (i - 1) (by omega)
    simp only [pkE,List.getElem?_eq_getElem hlt] at this
    split at this
    ·cases this
    ·rename_i hc
     simp only [not_or] at hc
     rw [List.getD_eq_getElem?_getD,List.getElem?_eq_getElem hlt]
     simp only [Option.getD_some]
     omega
   refine (qan (S:=qs) (fun i=>(if i=0 then -1 else t.2.2.1.getD (i - 1) 0,((i:Int),()))) t.2.2.1.length (pkE t.2.1 t.2.2.1) (fun e=>some ((e,()),())) (some ((if t.2.2.1.length=0 then 9 else 0,()),())) rfl (fun i hi hf ih=> ?_) (fun hf ih=> ?_) hk).trans ?_
   ·simp only
    rw [qG (qbt hi),qG (qZ hi),qX _ hi,qao (by omega)]
    simp only [pkE,List.getElem?_eq_getElem hi]
    have e2:leI (qn t.2.1) (t.2.2.1[i])=decide ((t.2.1.length:Int)≤t.2.2.1[i]):=by rw [qf2,qr]
    have e3:inB (t.2.2.1[i]) (qn t.2.1)=(decide (0≤t.2.2.1[i])&&decide (t.2.2.1[i]<(t.2.1.length:Int))):=by rw [qdc,qr]
    have e5:t.2.2.1.getD (i+1 - 1) 0=t.2.2.1[i]:=by
     rw [List.getD_eq_getElem?_getD,Nat.add_sub_cancel,List.getElem?_eq_getElem hi]; rfl
    rw [e2,e3,qf2]
    have hp:=hprev i (Nat.le_of_lt hi) hf
    simp only [show ¬(i+1=0) by omega,if_false,e5]
    change (bif _ then (bif (_||(qf t.2.1 (t.2.2.1[i]) qkj).2.2.1) then _ else _) else _)=_
    generalize (qf t.2.1 (t.2.2.1[i]) qkj).2.2.1=bb
    by_cases h8:i=0
    ·subst h8
     by_cases h4:t.2.2.1[0]<0
     ·have h6:t.2.2.1[0]≤ -1:=by omega
      simp [h4,h6]
     ·have h6:¬t.2.2.1[0]≤ -1:=by omega
      have h7:(0:Int)≤t.2.2.1[0]:=by omega
      by_cases h5:(t.2.1.length:Int)≤t.2.2.1[0]
      ·simp [h4,h5]
      ·have h9:t.2.2.1[0]<(t.2.1.length:Int):=by omega
       cases bb <;> simp [h4,h5,h6,h7,h9]
    ·have h0:0<i:=by omega
     have hp:=hp h0
     generalize t.2.2.1.getD (i - 1) 0=pv at *
     by_cases h4:t.2.2.1[i]≤pv
     ·simp [h4,h8,h0]
     ·have h6:¬t.2.2.1[i]<0:=by omega
      have h7:0≤t.2.2.1[i]:=by omega
      by_cases h5:(t.2.1.length:Int)≤t.2.2.1[i]
      ·simp [h4,h5,h8]
      ·have h9:t.2.2.1[i]<(t.2.1.length:Int):=by omega
       cases bb <;> simp [h4,h5,h6,h7,h8,h9]
   ·simp only
    rw [qM (qaX (Nat.lt_irrefl _)),qcs,qaY]
    by_cases h0:t.2.2.1.length=0
    ·simp [h0]
    ·have:=hprev _ (Nat.le_refl _) hf (by omega)
     rw [if_neg h0,if_neg h0,if_neg (by omega)]
   ·cases qaf (pkE t.2.1 t.2.2.1) t.2.2.1.length <;> rfl
  ·cases qaf (qvP t.2.1) t.2.1.length with
   |some e=>rfl
   |none=>cases qaf (pkE t.2.1 t.2.2.1) t.2.2.1.length <;> rfl
end
end Go.Proofs.YtfcdfdnlgfebmaaGreatDoor
namespace Go.Proofs.YtfcdfdnlgfebmaaGreatDoor
open Go.Vi
noncomputable section
theorem qjZ {α:Type} (q:α→Bool) (xs:List α):(qjU q xs).isSome=xs.any q:=by
 cases h:qjU q xs with
 |none=>
  have:=qme h
  rw [Option.isSome_none,eq_comm,Bool.eq_false_iff]
  simp only [ne_eq,List.any_eq_true,not_exists,not_and]
  intro x hx
  rw [this x hx]
  simp
 |some i=>
  obtain ⟨hi,h1,_⟩:=qh5 h
  rw [Option.isSome_some,eq_comm,List.any_eq_true]
  exact ⟨_,List.getElem_mem hi,h1⟩
def qp7 (s:qc):Prop:=∀t∈s.1,∀k∈t.2.2.1,0≤k∧k<(t.2.1.length:Int)
theorem qbR {s:qc} {n:List UInt8} {t:qz} (h:qfj s n=some t):t∈s.1:=by
 unfold qfj at h
 cases hi:qjU (qdj n) s.1 with
 |none=>rw [hi] at h; cases h
 |some i=>
  rw [hi] at h
  exact List.mem_of_getElem? h
theorem qem (s:qc) (n:List UInt8):(qjU (qdj n) s.1=none∧qfj s n=none)∨∃i t,qjU (qdj n) s.1=some i∧qfj s n=some t∧i<s.1.length∧∀d,qf s.1 (i:Int) d=t:=by
 unfold qfj
 cases h:qjU (qdj n) s.1 with
 |none=>exact .inl ⟨rfl,rfl⟩
 |some i=>
  obtain ⟨hi,_⟩:=qh5 h
  exact .inr ⟨i,s.1[i],rfl,by simp [hi],hi,fun d=>qX d hi⟩
def fkE (t r:qz) (cs:List Int) (j:Nat):Option Int:=match cs[j]? with
 |none=>none
 |some c=>if c<0∨(t.2.1.length:Int)≤c then some 3 else if (qf t.2.1 c qkj).2.1≠(qf r.2.1 (r.2.2.1.getD j 0) qkj).2.1 then some 7 else none
def vFk (s:qc) (f:qH):Int:=match qfj s f.1,qfj s f.2.2.1 with
 |some t,some r=>if f.2.1.length≠r.2.2.1.length then 3 else match qaf (fkE t r f.2.1) f.2.1.length with
  |some e=>e
  |none=>0
 |_,_=>4
theorem qnR {α β:Type} (xs:List α) (ys:List β):neI (qn xs) (qn ys)=decide (xs.length≠ys.length):=by
 rw [qaW,qr,qr,←decide_not]; exact decide_eq_decide.2 (by omega)
theorem qu8 (N:Nat) (s:qc) (f:qH) (hB:N≤1099511627776) (ht:s.1.length<N) (hf:f.2.1.length<N) (hv:qp7 s):qa1 N (s,(f,()))=some ((vFk s f,()),()):=by
 simp only [qa1,qJ]
 rw [qcP N s f.1 ht hB,qcP N s f.2.2.1 ht hB]
 simp only [qd,qg,cond_true,vFk]
 rcases qem s f.1 with ⟨h1,h2⟩|⟨i,t,h1,h2,h3,h4⟩
 ·rw [h1,h2]; rfl
 rcases qem s f.2.2.1 with ⟨g1,g2⟩|⟨k,r,g1,g2,g3,g4⟩
 ·rw [g1,g2,h1,h2]; rfl
 rw [h1,h2,g1,g2]
 simp only [Option.isSome_some,Bool.not_true,Bool.or_self,cond_false,Option.getD_some,qZ h3,qZ g3,Bool.and_self,cond_true,h4,g4,qnR,qaY]
 by_cases hl:f.2.1.length≠r.2.2.1.length
 ·rw [if_pos hl,if_pos hl]
 rw [if_neg hl,if_neg hl]
 have hl:f.2.1.length=r.2.2.1.length:=by omega
 have hr:=hv r (qbR g2)
 refine (qan (S:=Int×Unit) (fun i=>((i:Int),())) f.2.1.length (fkE t r f.2.1) (fun e=>some ((e,()),())) (some ((0,()),())) rfl (fun j hj _ ih=> ?_) (fun _ ih=> ?_) hf).trans ?_
 ·simp only
  have hjr:j<r.2.2.1.length:=by omega
  have e0:r.2.2.1.getD j 0=r.2.2.1[j]:=by rw [List.getD_eq_getElem?_getD,List.getElem?_eq_getElem hjr]; rfl
  rw [qG (qbt hj),qG (qZ hj),qX _ hj,qao (by omega),qZ hjr,qX _ hjr]
  simp only [fkE,List.getElem?_eq_getElem hj,e0]
  obtain ⟨q1,q2⟩:=hr _ (List.getElem_mem hjr)
  have e1:ltI (f.2.1[j]) 0=decide (f.2.1[j]<0):=qcs _ _
  have e2:leI (qn t.2.1) (f.2.1[j])=decide ((t.2.1.length:Int)≤f.2.1[j]):=by rw [qf2,qr]
  have e3:inB (f.2.1[j]) (qn t.2.1)=(decide (0≤f.2.1[j])&&decide (f.2.1[j]<(t.2.1.length:Int))):=by rw [qdc,qr]
  have e4:inB (r.2.2.1[j]) (qn r.2.1)=true:=by rw [qex,qr]; simp [q1,q2]
  rw [e1,e2,e3,e4]
  change (bif _ then _ else (bif _ then (bif neI (qf t.2.1 (f.2.1[j]) qkj).2.1 (qf r.2.1 (r.2.2.1[j]) qkj).2.1 then _ else _) else _))=_
  by_cases h5:f.2.1[j]<0
  ·simp [h5]
  by_cases h6:(t.2.1.length:Int)≤f.2.1[j]
  ·simp [h6]
  have h7:0≤f.2.1[j]:=by omega
  have h8:f.2.1[j]<(t.2.1.length:Int):=by omega
  simp only [h5,h6,h7,h8,decide_false,decide_true,Bool.or_self,Bool.and_self,cond_false,cond_true,or_self,if_false,qaW,←decide_not,qaY]
  split <;> rename_i hq <;> simp [hq]
 ·simp only
  rw [qM (qaX (Nat.lt_irrefl _))]
 ·cases qaf (fkE t r f.2.1) f.2.1.length <;> rfl
theorem quS (N:Nat) (s:qc) (f:qH) (hB:N≤1099511627776) (ht:s.1.length<N) (hf:f.2.1.length<N) (hv:qp7 s):qaQ N (s,(f,()))=some ((vFk s f,()),()):=by
 simp only [qaQ,qJ]
 rw [qfM N s f.1 ht hB,qfM N s f.2.2.1 ht hB]
 simp only [qd,qg,Bool.and_self,cond_true,vFk]
 cases h2:qfj s f.1 with
 |none=>rw [qgS]; rfl
 |some t=>
 cases g2:qfj s f.2.2.1 with
 |none=>rw [qgS,qd]; rfl
 |some r=>
 simp only [qd,qg,Bool.not_true,Bool.or_self,cond_false,cond_true,qnR,qaY]
 by_cases hl:f.2.1.length≠r.2.2.1.length
 ·rw [if_pos hl,if_pos hl]
 rw [if_neg hl,if_neg hl]
 have hl:f.2.1.length=r.2.2.1.length:=by omega
 have hr:=hv r (qbR g2)
 refine (qan (S:=Int×Unit) (fun i=>((i:Int),())) f.2.1.length (fkE t r f.2.1) (fun e=>some ((e,()),())) (some ((0,()),())) rfl (fun j hj _ ih=> ?_) (fun _ ih=> ?_) hf).trans ?_
 ·simp only
  have hjr:j<r.2.2.1.length:=by omega
  have e0:r.2.2.1.getD j 0=r.2.2.1[j]:=by rw [List.getD_eq_getElem?_getD,List.getElem?_eq_getElem hjr]; rfl
  rw [qG (qbt hj),qG (qZ hj),qX _ hj,qao (by omega),qZ hjr,qX _ hjr]
  simp only [fkE,List.getElem?_eq_getElem hj,e0]
  obtain ⟨q1,q2⟩:=hr _ (List.getElem_mem hjr)
  have e1:ltI (f.2.1[j]) 0=decide (f.2.1[j]<0):=qcs _ _
  have e2:leI (qn t.2.1) (f.2.1[j])=decide ((t.2.1.length:Int)≤f.2.1[j]):=by rw [qf2,qr]
  have e3:inB (f.2.1[j]) (qn t.2.1)=(decide (0≤f.2.1[j])&&decide (f.2.1[j]<(t.2.1.length:Int))):=by rw [qdc,qr]
  have e4:inB (r.2.2.1[j]) (qn r.2.1)=true:=by rw [qex,qr]; simp [q1,q2]
  rw [e1,e2,e3,e4]
  change (bif _ then (bif _ then _ else (bif _ then (bif neI (qf t.2.1 (f.2.1[j]) qkj).2.1 (qf r.2.1 (r.2.2.1[j]) qkj).2.1 then _ else _) else _)) else _)=_
  by_cases h5:f.2.1[j]<0
  ·simp [h5]
  by_cases h6:(t.2.1.length:Int)≤f.2.1[j]
  ·simp [h6]
  have h7:0≤f.2.1[j]:=by omega
  have h8:f.2.1[j]<(t.2.1.length:Int):=by omega
  simp only [h5,h6,h7,h8,decide_false,decide_true,Bool.or_self,Bool.and_self,Bool.or_true,cond_false,cond_true,or_self,if_false,qaW,←decide_not,qaY]
  split <;> rename_i hq <;> simp [hq]
 ·simp only
  rw [qM (qaX (Nat.lt_irrefl _))]
 ·cases qaf (fkE t r f.2.1) f.2.1.length <;> rfl
def qq0 (v:qb):Int:=
 if v.1<0∨3<v.1 then 7 else if (v.1≠3∧v.2.2.1≠[])∨((v.1=0∨v.1=3)∧v.2.1≠0) then 3
 else if (v.1=2∧(v.2.1<0∨1<v.2.1))∨1000000000000<v.2.1∨v.2.1< -1000000000000 then 1 else if 24<v.2.2.1.length then 2 else 0
theorem len24 (s:List UInt8):ltI 24 (qn s)=decide (24<s.length):=qlu s 24
theorem qmO (N:Nat) (v:qb):qad N (v,())=some ((qq0 v,()),()):=by
 obtain ⟨k,n,s,⟨⟩⟩:=v
 simp only [qad,qJ,qq0,qcs,qaW,qb7,qbg,qr]
 simp only [quR,Bool.or_eq_true,Bool.and_eq_true,decide_eq_true_eq,Bool.not_eq_true',decide_eq_false_iff_not]
 grind
theorem qnc (N:Nat) (v:qb):qbm N (v,())=some ((qq0 v,()),()):=by
 obtain ⟨k,n,s,⟨⟩⟩:=v
 simp only [qbm,qJ,qq0,qcs,qaW,qb7,qbg,qr]
 simp only [quR,Bool.or_eq_true,Bool.and_eq_true,decide_eq_true_eq,Bool.not_eq_true',decide_eq_false_iff_not]
 by_cases k0:k=0
 ·subst k0; grind
 by_cases k1:k=1
 ·subst k1; grind
 by_cases k2:k=2
 ·subst k2; grind
 by_cases k3:k=3
 ·subst k3; grind
 grind
def qrR (o:List UInt8):Bool:=decide (o=[61])||(decide (o=[60])||decide (o=[60,61]))
def qqV (v:qb):Bool:=decide (v.1=0)&&(decide (v.2.1=0)&&decide (v.2.2.1=[]))
def quy (s:qc) (c:qV):Int:=match qfj s c.1 with
 |none=>4
 |some t=>if c.2.1<0∨(t.2.1.length:Int)≤c.2.1∨qrR c.2.2.1=false∨c.2.2.2.1< -1∨(t.2.1.length:Int)≤c.2.2.2.1∨(0≤c.2.2.2.1∧qqV c.2.2.2.2.1=false) then 3
  else if 0≤c.2.2.2.1 then (if (qf t.2.1 c.2.1 qkj).2.1≠(qf t.2.1 c.2.2.2.1 qkj).2.1 then 7 else 0)
  else if c.2.2.2.2.1.1≠(qf t.2.1 c.2.1 qkj).2.1 then 7 else qq0 c.2.2.2.2.1
theorem qpO (N:Nat) (o:List UInt8):∃b,qbU N ((0,(0,(([]:List UInt8),()))),(o,((0,(0,(([]:List UInt8),()))),())))=some ((b,(if qrR o=true then 0 else 3,())),()):=by
 simp only [qbU,qJ,qbg,qb7,qrR]
 by_cases h1:o=[61]
 ·exact ⟨true,by simp [h1]⟩
 by_cases h2:o=[60]
 ·exact ⟨true,by simp [h2]⟩
 by_cases h3:o=[60,61]
 ·exact ⟨true,by simp [h3]⟩
 ·exact ⟨false,by simp [h1,h2,h3]⟩
theorem qtN (N:Nat) (s:qc) (c:qV) (hB:N≤1099511627776) (ht:s.1.length<N):qa2 N (s,(c,()))=some ((quy s c,()),()):=by
 obtain ⟨b,hb⟩:=qpO N c.2.2.1
 simp only [qa2,qJ]
 rw [qcP N s c.1 ht hB,hb,qnc]
 simp only [qd,qg,cond_true,quy]
 rcases qem s c.1 with ⟨h1,h2⟩|⟨i,t,h1,h2,h3,h4⟩
 ·rw [h1,h2]; rfl
 rw [h1,h2]
 simp only [Option.isSome_some,Bool.not_true,cond_false,Option.getD_some,qZ h3,cond_true,h4]
 obtain ⟨c1,l,o,r,v,⟨⟩⟩:=c
 simp only at *
 have e1:ltI l 0=decide (l<0):=qcs _ _
 have e2:leI (qn t.2.1) l=decide ((t.2.1.length:Int)≤l):=by rw [qf2,qr]
 have e3:neI (if qrR o=true then 0 else 3) 0= !qrR o:=by rw [qaW]; cases qrR o <;> simp
 have e4:ltI r (-1)=decide (r< -1):=qcs _ _
 have e5:leI (qn t.2.1) r=decide ((t.2.1.length:Int)≤r):=by rw [qf2,qr]
 have e6:leI 0 r=decide (0≤r):=qf2 _ _
 have e7:(eqI v.1 0&&(eqI v.2.1 0&&eqS v.2.2.1 []))=qqV v:=by simp only [qb7,qbg,qqV]
 have e8:inB l (qn t.2.1)=(decide (0≤l)&&decide (l<(t.2.1.length:Int))):=by rw [qdc,qr]
 have e9:inB r (qn t.2.1)=(decide (0≤r)&&decide (r<(t.2.1.length:Int))):=by rw [qdc,qr]
 rw [e1,e2,e3,e4,e5,e6,e7,e8,e9]
 change (bif _ then _ else (bif _ then (bif _ then (bif neI (qf t.2.1 l qkj).2.1 (qf t.2.1 r qkj).2.1 then _ else _) else _) else (bif _ then (bif neI v.1 (qf t.2.1 l qkj).2.1 then _ else _) else _)))=_
 rw [qaW,qaW]
 generalize (qf t.2.1 l qkj).2.1=kl
 generalize (qf t.2.1 r qkj).2.1=kr
 simp only [quR,Bool.or_eq_true,Bool.and_eq_true,decide_eq_true_eq,Bool.not_eq_true',decide_eq_false_iff_not]
 generalize qq0 v=vv
 generalize qqV v=vz
 generalize qrR o=oo
 cases vz <;> cases oo <;> grind
theorem qs3 (N:Nat) (s:qc) (c:qV) (hB:N≤1099511627776) (ht:s.1.length<N):qaR N (s,(c,()))=some ((quy s c,()),()):=by
 have hop:qcx N (c.2.2.1,())=some ((qrR c.2.2.1,()),()):=by
  simp only [qcx,qbg,qrR,Bool.or_assoc]
 simp only [qaR,qJ]
 rw [qfM N s c.1 ht hB,hop,qmO]
 simp only [qd,qg,cond_true,quy]
 cases h2:qfj s c.1 with
 |none=>rw [qgS]; rfl
 |some t=>
 simp only [qd,qg,Bool.not_true,cond_false,cond_true,Bool.or_true]
 obtain ⟨c1,l,o,r,v,⟨⟩⟩:=c
 simp only at *
 have e1:ltI l 0=decide (l<0):=qcs _ _
 have e2:leI (qn t.2.1) l=decide ((t.2.1.length:Int)≤l):=by rw [qf2,qr]
 have e4:ltI r (-1)=decide (r< -1):=qcs _ _
 have e5:leI (qn t.2.1) r=decide ((t.2.1.length:Int)≤r):=by rw [qf2,qr]
 have e6:neI r (-1)= !decide (r= -1):=qaW _ _
 have e7:(eqI v.1 0&&(eqI v.2.1 0&&eqS v.2.2.1 []))=qqV v:=by simp only [qb7,qbg,qqV]
 have e8:inB l (qn t.2.1)=(decide (0≤l)&&decide (l<(t.2.1.length:Int))):=by rw [qdc,qr]
 have e9:inB r (qn t.2.1)=(decide (0≤r)&&decide (r<(t.2.1.length:Int))):=by rw [qdc,qr]
 rw [e1,e2,e4,e5,e6,e7,e8,e9]
 change (bif _ then _ else (bif _ then (bif _ then (bif neI (bif _ then (qf t.2.1 r qkj).2.1 else v.1) (qf t.2.1 l qkj).2.1 then _ else _) else _) else _))=_
 rw [qaW]
 generalize (qf t.2.1 l qkj).2.1=kl
 generalize (qf t.2.1 r qkj).2.1=kr
 simp only [quR,Bool.or_eq_true,Bool.and_eq_true,decide_eq_true_eq,Bool.not_eq_true',decide_eq_false_iff_not]
 generalize qq0 v=vv
 generalize qqV v=vz
 generalize qrR o=oo
 cases vz <;> cases oo <;> grind
def qro (ts:List qz) (i:Nat):Option Int:=match ts[i]? with
 |none=>none
 |some t=>if qsB t≠0 then some (qsB t) else if 0<i∧qcf (qf ts ((i:Int) - 1) (([]:List UInt8),(([]:List qj),(([]:List Int),())))).1 t.1=false then some 6 else none
open Classical in
def fkL (s:qc) (i:Nat):Option Int:=match s.2.1[i]? with
 |none=>none
 |some f=>if vFk s f≠0 then some (vFk s f) else if f∈s.2.1.take i then some 5 else none
open Classical in
def qrk (s:qc) (i:Nat):Option Int:=match s.2.2.1[i]? with
 |none=>none
 |some c=>if quy s c≠0 then some (quy s c) else if c∈s.2.2.1.take i then some 5 else none
def qp0 (s:qc):Int:=if 6<s.1.length∨8<s.2.1.length∨8<s.2.2.1.length then 2 else match qaf (qro s.1) s.1.length with
 |some e=>e
 |none=>match qaf (fkL s) s.2.1.length with
  |some e=>e
  |none=>match qaf (qrk s) s.2.2.1.length with
   |some e=>e
   |none=>0
theorem qh2 {s:qc} (h:qaf (qro s.1) s.1.length=none):qp7 s:=fun t ht k hk=>by
 obtain ⟨i,hi,rfl⟩:=List.getElem_of_mem ht
 have:=qa3 h i hi
 simp only [qro,List.getElem?_eq_getElem hi] at this
 split at this
 ·cases this
 rename_i hv
 have hv:qsB s.1[i]=0:=by simpa using hv
 unfold qsB at hv
 split at hv
 ·cases hv
 split at hv
 ·cases hv
 split at hv
 ·cases hv
 split at hv
 ·rename_i e he
  obtain ⟨j,h1,h2,_⟩:=qcS he
  simp only [qvP,List.getElem?_eq_getElem h1] at h2
  subst hv
  split at h2
  ·cases h2
  split at h2
  ·cases h2
  split at h2 <;> cases h2
 split at hv
 ·rename_i e he
  obtain ⟨j,h1,h2,_⟩:=qcS he
  simp only [pkE,List.getElem?_eq_getElem h1] at h2
  subst hv
  split at h2 <;> cases h2
 rename_i hpk
 obtain ⟨j,hj,rfl⟩:=List.getElem_of_mem hk
 have:=qa3 hpk j hj
 simp only [pkE,List.getElem?_eq_getElem hj] at this
 split at this
 ·cases this
 ·rename_i hc
  simp only [not_or] at hc
  omega
structure qdC (N:Nat) (s:qc):Prop where
 sm:Small N s
 m:100<N
theorem qdC.tab {N:Nat} {s:qc} (h:qdC N s) {t:qz} (ht:t∈s.1):qpN N t:=
 ⟨h.sm.n,h.m,h.sm.tn t ht,h.sm.tc t ht,h.sm.tk t ht,h.sm.cn t ht⟩
theorem gt3 (s:qc):((ltI 6 (qn s.1)||ltI 8 (qn s.2.1))||ltI 8 (qn s.2.2.1))=decide (6<s.1.length∨8<s.2.1.length∨8<s.2.2.1.length):=by
 rw [show ltI 6 (qn s.1)=decide (6<s.1.length) from qlu _ 6,show ltI 8 (qn s.2.1)=decide (8<s.2.1.length) from qlu _ 8,show ltI 8 (qn s.2.2.1)=decide (8<s.2.2.1.length) from qlu _ 8,←Bool.decide_or,←Bool.decide_or]
 exact decide_eq_decide.2 or_assoc
theorem qt7 (N:Nat) (xs:List qV) (c:qV) (hN:xs.length<N) (hb:xs.length≤1099511627776):qaP N (xs,(c,()))=some ((qkS (fun x=>decide (c=x)) xs,()),()):=by
 simp only [qaP]
 refine (qan (S:=Int×Unit) (fun i=>((i:Int),())) xs.length (atE (fun x=>decide (c=x)) xs) (fun i=>some (((i:Int),()),())) (some ((-1,()),())) rfl (fun i hi _ ih=> ?_) (fun _ ih=> ?_) hN).trans ?_
 ·simp only
  rw [qG (qbt hi),qG (qZ hi),qX _ hi,qao (by omega)]
  simp only [atE,List.getElem?_eq_getElem hi]
  generalize xs[i]=x
  obtain ⟨a1,a2,a3,a4,⟨a5,a6,a7,⟨⟩⟩,⟨⟩⟩:=c
  obtain ⟨b1,b2,b3,b4,⟨b5,b6,b7,⟨⟩⟩,⟨⟩⟩:=x
  simp only [qbg,qb7,Prod.mk.injEq,and_true,←Bool.decide_and,qaY,decide_eq_true_eq]
  split <;> rename_i hq <;> simp [hq]
 ·simp only
  rw [qM (qaX (Nat.lt_irrefl _))]
 ·rw [qkS,qjU]
  cases qaf (atE (fun x=>decide (c=x)) xs) xs.length <;> rfl
theorem qpu (N:Nat) (xs:List qV) (c:qV) (hN:xs.length<N) (hb:xs.length≤1099511627776):qaC N (xs,(c,()))=some ((decide (c∈xs),()),()):=by
 simp only [qaC,qt7 N xs c hN hb,qd,qg,cond_true,qlh,qjZ]
 congr 3
 rw [Bool.eq_iff_iff]
 simp
theorem qqI (N:Nat) (xs:List qH) (f:qH) (hN:xs.length<N) (hB:N≤1099511627776) (hc:∀x∈xs,x.2.1.length<N):
  qaq N (xs,((fun x6=>(qf8 (fun y7=>(y7.1.1,())) (qbs N (x6.1,(f,()))))),()))=some ((decide (f∈xs),()),()):=by
 simp only [qaq]
 have h:=qe3 (fun x6=>(qf8 (fun y7:((Bool×Unit)×Unit)=>(y7.1.1,())) (qbs N (x6.1,(f,()))))) (fun x=>decide (x=f)) xs (fun a ha=>by simp only [qbs,qsv N a f (hc a ha) hB,qd,qg,cond_true,qbX,Option.map_some]) (([]:List UInt8),(([]:List Int),(([]:List UInt8),()))) N hN (by omega)
 rw [show qaZ N (xs,((fun x6=>(qf8 (fun y7=>(y7.1.1,())) (qbs N (x6.1,(f,()))))),()))=some ((qkS (fun x=>decide (x=f)) xs,()),()) from h]
 simp only [qd,qg,cond_true,qlh,qjZ]
 congr 3
 rw [Bool.eq_iff_iff]
 simp
theorem qm7 (N:Nat) (s:qc) (h:qdC N s):qbQ N (s,())=some ((qp0 s,()),()):=by
 have hn:=h.sm.n
 have ht:=h.sm.t
 have hf:=h.sm.f
 have hc:=h.sm.c
 simp only [qbQ,qJ,gt3,qaY]
 unfold qp0
 by_cases h0:6<s.1.length∨8<s.2.1.length∨8<s.2.2.1.length
 ·rw [if_pos h0,if_pos h0]
 rw [if_neg h0,if_neg h0]
 refine (qan (S:=Int×Unit) (fun i=>((i:Int),())) s.1.length (qro s.1) (fun e=>some ((e,()),())) (some ((match qaf (fkL s) s.2.1.length with
  |some e=>e
  |none=>match qaf (qrk s) s.2.2.1.length with
   |some e=>e
   |none=>0,()),())) rfl (fun i hi _ ih=> ?_) (fun hk ih=> ?_) ht).trans ?_
 ·simp only
  rw [qG (qbt hi),qG (qZ hi),qX _ hi,qqt N _ (h.tab (List.getElem_mem hi)),qao (by omega)]
  simp only [qd,qg,cond_true,qro,List.getElem?_eq_getElem hi,qaW,←decide_not,qaY]
  by_cases h1:qsB s.1[i]=0
  ·have e4:ltI 0 (i:Int)=decide (0<i):=by rw [qcs]; exact decide_eq_decide.2 (by omega)
   rw [if_neg (by simp [h1]),if_neg (by simp [h1]),e4]
   by_cases h8:0<i
   ·have e5:qE .i64 (i:Int) 1=(i:Int) - 1:=qak (by omega) (by omega)
    have e6:inB ((i:Int) - 1) (qn s.1)=true:=by rw [qex,qr]; simp; omega
    rw [e5,e6,qmP]
    cases qcf (qf s.1 ((i:Int) - 1) (([]:List UInt8),(([]:List qj),(([]:List Int),())))).1 (s.1[i]).1 <;> simp [h8]
   ·simp [h8]
  ·rw [if_pos h1,if_pos h1]
 ·simp only
  have hv:=qh2 hk
  rw [qM (qaX (Nat.lt_irrefl _))]
  refine (qan (S:=Int×Unit) (fun i=>((i:Int),())) s.2.1.length (fkL s) (fun e=>some ((e,()),())) (some ((match qaf (qrk s) s.2.2.1.length with
   |some e=>e
   |none=>0,()),())) rfl (fun i hi _ ih=> ?_) (fun _ ih=> ?_) hf).trans ?_
  ·simp only
   rw [qG (qbt hi),qG (qZ hi),qX _ hi,qu8 N s _ hn ht (h.sm.fc _ (List.getElem_mem hi)) hv,qao (by omega),ql0,qqI N (s.2.1.take i) _ (by rw [List.length_take]; omega) hn (fun x hx=>h.sm.fc x (List.mem_of_mem_take hx))]
   have e5:inS 0 (i:Int) (qn s.2.1)=true:=by rw [qoq,qr]; simp; omega
   simp only [qd,qg,cond_true,fkL,List.getElem?_eq_getElem hi,qaW,←decide_not,qaY,e5,Bool.and_self]
   by_cases h1:vFk s s.2.1[i]=0
   ·simp only [h1,ne_eq,not_true_eq_false,if_false]
    by_cases h2:s.2.1[i]∈s.2.1.take i
    ·rw [if_pos h2,if_pos h2]
    ·rw [if_neg h2,if_neg h2]
   ·rw [if_pos h1,if_pos h1]
  ·simp only
   rw [qM (qaX (Nat.lt_irrefl _))]
   refine (qan (S:=Int×Unit) (fun i=>((i:Int),())) s.2.2.1.length (qrk s) (fun e=>some ((e,()),())) (some ((0,()),())) rfl (fun i hi _ ih=> ?_) (fun _ ih=> ?_) hc).trans ?_
   ·simp only
    rw [qG (qbt hi),qG (qZ hi),qX _ hi,qtN N s _ hn ht,qao (by omega),ql0,qpu N (s.2.2.1.take i) _ (by rw [List.length_take]; omega) (by rw [List.length_take]; omega)]
    have e5:inS 0 (i:Int) (qn s.2.2.1)=true:=by rw [qoq,qr]; simp; omega
    simp only [qd,qg,cond_true,qrk,List.getElem?_eq_getElem hi,qaW,←decide_not,qaY,e5,Bool.and_self]
    by_cases h1:quy s s.2.2.1[i]=0
    ·simp only [h1,ne_eq,not_true_eq_false,if_false]
     by_cases h2:s.2.2.1[i]∈s.2.2.1.take i
     ·rw [if_pos h2,if_pos h2]
     ·rw [if_neg h2,if_neg h2]
    ·rw [if_pos h1,if_pos h1]
   ·simp only
    rw [qM (qaX (Nat.lt_irrefl _))]
   ·cases qaf (qrk s) s.2.2.1.length <;> rfl
  ·cases qaf (fkL s) s.2.1.length <;> rfl
 ·cases qaf (qro s.1) s.1.length <;> rfl
theorem fk_ids (xs:List qH) (f:qH):fkC f∈xs.map fkC↔f∈xs:=by
 constructor
 ·intro h
  obtain ⟨x,hx,he⟩:=List.mem_map.1 h
  rw [qtH he] at hx
  exact hx
 ·exact fun h=>List.mem_map_of_mem h
theorem qpY (N:Nat) (s:qc) (h:qdC N s) (hid:∀f∈s.2.1,(fkC f).length≤1099511627776):qbh N (s,())=some ((qp0 s,()),()):=by
 have hn:=h.sm.n
 have ht:=h.sm.t
 have hf:=h.sm.f
 have hc:=h.sm.c
 simp only [qbh,qJ,gt3,qaY]
 unfold qp0
 by_cases h0:6<s.1.length∨8<s.2.1.length∨8<s.2.2.1.length
 ·rw [if_pos h0,if_pos h0]
 rw [if_neg h0,if_neg h0]
 refine (qan (S:=Int×Unit) (fun i=>((i:Int),())) s.1.length (qro s.1) (fun e=>some ((e,()),())) (some ((match qaf (fkL s) s.2.1.length with
  |some e=>e
  |none=>match qaf (qrk s) s.2.2.1.length with
   |some e=>e
   |none=>0,()),())) rfl (fun i hi _ ih=> ?_) (fun hk ih=> ?_) ht).trans ?_
 ·simp only
  rw [qG (qbt hi),qG (qZ hi),qX _ hi,qqS N _ (h.tab (List.getElem_mem hi)),qao (by omega)]
  simp only [qd,qg,cond_true,qro,List.getElem?_eq_getElem hi,qaW,←decide_not,qaY]
  by_cases h1:qsB s.1[i]=0
  ·have e4:ltI 0 (i:Int)=decide (0<i):=by rw [qcs]; exact decide_eq_decide.2 (by omega)
   rw [if_neg (by simp [h1]),if_neg (by simp [h1]),e4]
   by_cases h8:0<i
   ·have e5:qE .i64 (i:Int) 1=(i:Int) - 1:=qak (by omega) (by omega)
    have e6:inB ((i:Int) - 1) (qn s.1)=true:=by rw [qex,qr]; simp; omega
    rw [e5,e6]
    cases qcf (qf s.1 ((i:Int) - 1) (([]:List UInt8),(([]:List qj),(([]:List Int),())))).1 (s.1[i]).1 <;> simp [h8]
   ·simp [h8]
  ·rw [if_pos h1,if_pos h1]
 ·simp only
  have hv:=qh2 hk
  rw [qM (qaX (Nat.lt_irrefl _))]
  refine (qan (S:=(List ((List UInt8)×Int))×(Int×Unit)) (fun i=>(qqg ((s.2.1.take i).map fkC),((i:Int),()))) s.2.1.length (fkL s) (fun e=>some ((e,()),())) (some ((match qaf (qrk s) s.2.2.1.length with
   |some e=>e
   |none=>0,()),())) rfl (fun i hi _ ih=> ?_) (fun _ ih=> ?_) hf).trans ?_
  ·simp only
   have hm:=List.getElem_mem hi
   have hlen:((s.2.1.take i).map fkC).length<4611686018427387904:=by rw [List.length_map,List.length_take]; omega
   have q:=h.sm.fc _ hm
   rw [qG (qbt hi),qG (qZ hi),qX _ hi,quS N s _ hn ht q hv,qao (by omega),qm1 N _ q (hid _ hm) (by omega)]
   simp only [qd,qg,cond_true]
   rw [qnX _ hlen,←qnd]
   have e0:(s.2.1.take i).map fkC++[fkC s.2.1[i]]=(s.2.1.take (i+1)).map fkC:=by rw [qee hi,List.map_append]; rfl
   simp only [fkL,List.getElem?_eq_getElem hi,qaW,←decide_not,qaY,e0,fk_ids]
   by_cases h1:vFk s s.2.1[i]=0
   ·simp only [h1,ne_eq,not_true_eq_false,if_false]
    by_cases h2:s.2.1[i]∈s.2.1.take i
    ·rw [if_pos h2,if_pos h2]
    ·rw [if_neg h2,if_neg h2]
   ·rw [if_pos h1,if_pos h1]
  ·simp only
   rw [qM (qaX (Nat.lt_irrefl _))]
   refine (qan (S:=Int×Unit) (fun i=>((i:Int),())) s.2.2.1.length (qrk s) (fun e=>some ((e,()),())) (some ((0,()),())) rfl (fun i hi _ ih=> ?_) (fun _ ih=> ?_) hc).trans ?_
   ·simp only
    rw [qG (qbt hi),qG (qZ hi),qX _ hi,qs3 N s _ hn ht,qao (by omega),ql0]
    have e5:inS 0 (i:Int) (qn s.2.2.1)=true:=by rw [qoq,qr]; simp; omega
    simp only [qd,qg,cond_true,qrk,List.getElem?_eq_getElem hi,qaW,←decide_not,qaY,e5]
    by_cases h1:quy s s.2.2.1[i]=0
    ·simp only [h1,ne_eq,not_true_eq_false,if_false]
     have hlt:(s.2.2.1.take i).length<N:=by rw [List.length_take]; omega
     refine (qan (S:=Int×Unit) (fun j=>((j:Int),())) (s.2.2.1.take i).length (atE (fun x=>decide (x=s.2.2.1[i])) (s.2.2.1.take i)) (fun _=>some ((5,()),())) (ih (((i+1:Nat):Int),())) rfl (fun j hj _ ih2=> ?_) (fun _ ih2=> ?_) hlt).trans ?_
     ·simp only
      rw [qG (qbt hj),qG (qZ hj),qX _ hj,qao (by omega)]
      simp only [atE,List.getElem?_eq_getElem hj]
      generalize (s.2.2.1.take i)[j]=x
      generalize s.2.2.1[i]=c
      obtain ⟨a1,a2,a3,a4,⟨a5,a6,a7,⟨⟩⟩,⟨⟩⟩:=c
      obtain ⟨b1,b2,b3,b4,⟨b5,b6,b7,⟨⟩⟩,⟨⟩⟩:=x
      simp only [qbg,qb7,Prod.mk.injEq,and_true,←Bool.decide_and,qaY,decide_eq_true_eq]
      split <;> rename_i hq <;> simp [hq]
     ·simp only
      rw [qM (qaX (Nat.lt_irrefl _))]
     ·have e6:=qjZ (fun x=>decide (x=s.2.2.1[i])) (s.2.2.1.take i)
      unfold qjU at e6
      by_cases h2:s.2.2.1[i]∈s.2.2.1.take i
      ·have:(s.2.2.1.take i).any (fun x=>decide (x=s.2.2.1[i]))=true:=by simp only [List.any_eq_true,decide_eq_true_eq]; exact ⟨_,h2,rfl⟩
       rw [this] at e6
       obtain ⟨k,hk⟩:=Option.isSome_iff_exists.1 e6
       rw [hk,if_pos h2]
      ·have:(s.2.2.1.take i).any (fun x=>decide (x=s.2.2.1[i]))=false:=by
        rw [List.any_eq_false]
        intro x hx he
        rw [decide_eq_true_eq] at he
        subst he
        exact h2 hx
       rw [this] at e6
       have hk:qaf (atE (fun x=>decide (x=s.2.2.1[i])) (s.2.2.1.take i)) (s.2.2.1.take i).length=none:=by simpa using e6
       rw [hk,if_neg h2]
    ·rw [if_pos h1,if_pos h1]
   ·simp only
    rw [qM (qaX (Nat.lt_irrefl _))]
   ·cases qaf (qrk s) s.2.2.1.length <;> rfl
  ·cases qaf (fkL s) s.2.1.length <;> rfl
 ·cases qaf (qro s.1) s.1.length <;> rfl
end
end Go.Proofs.YtfcdfdnlgfebmaaGreatDoor
namespace Go.Proofs.YtfcdfdnlgfebmaaGreatDoor
open Go.Vi
noncomputable section
theorem qjc (N:Nat) (x y:Int):qaK N (x,(y,()))=some ((ic x y,()),()):=by
 simp only [qaK,qJ,qbi,condO,decide_eq_true_eq,ic]
 split
 ·rfl
 ·split <;> rfl
theorem qr1 (N:Nat) (a b:List UInt8):qcH N (a,(b,()))=some ((Lib.compareBytes a b,()),()):=by
 simp only [qcH,qa0,qJ,qd,qg,cond_true]
theorem qn0 (N:Nat) (a b:qb):qch N (a,(b,()))=some ((vc a b,()),()):=by
 simp only [qch,qJ,qjc,qr1,qd,qg,cond_true,qaW,condO,Bool.not_eq_true',decide_eq_false_iff_not,vc]
 split
 ·rfl
 ·split <;> rfl
theorem qwu (N:Nat) (a b:qb):qa9 N (a,(b,()))=some ((decide (vc a b<0),()),()):=by
 simp only [qa9,qJ,qaW,qbi,qjX]
 have h1:=qbl a.1 b.1
 have h2:=qbl a.2.1 b.2.1
 by_cases e1:a.1=b.1
 ·have f1:ic a.1 b.1=0:=by omega
  by_cases e2:a.2.1=b.2.1
  ·have f2:ic a.2.1 b.2.1=0:=by omega
   have:vc a b=Lib.compareBytes a.2.2.1 b.2.2.1:=by simp [vc,f1,f2]
   simp [e1,e2,this]
  ·have f2:ic a.2.1 b.2.1≠0:=by omega
   have h3:vc a b=ic a.2.1 b.2.1:=by simp [vc,f1,f2]
   have h4:a.2.1<b.2.1↔vc a b<0:=by omega
   simp [e1,e2,h4]
 ·have f1:ic a.1 b.1≠0:=by omega
  have h3:vc a b=ic a.1 b.1:=by simp [vc,f1]
  have h4:a.1<b.1↔vc a b<0:=by omega
  simp [e1,h4]
theorem qnx (N:Nat) (xs ys:qbA) (hN:xs.length<N) (hB:N≤1099511627776):qcq N (xs,(ys,()))=some ((q9 xs ys,()),()):=by
 simp only [qcq,qJ,qjc,qn0,qd,qg,cond_true,Bool.and_true]
 refine qeK (S:=Int×Unit) (R:=(Int×Unit)×Unit) (fun p=>xs.length - p.1.toNat) (fun p=>∃i:Nat,p.1=(i:Int)∧i≤xs.length∧i≤ys.length∧q9 (xs.drop i) (ys.drop i)=q9 xs ys) (fun _=>((q9 xs ys,()),())) ?_ N _ ⟨0,rfl,Nat.zero_le _,Nat.zero_le _,rfl⟩ (by simp; omega)
 rintro ih ⟨_,_⟩ ⟨i,rfl,hx,hy,he⟩ hih
 simp only [Int.toNat_natCast] at hih⊢
 by_cases h:i<xs.length∧i<ys.length
 ·obtain ⟨h1,h2⟩:=h
  rw [qG (by rw [qbi,qlW,qr,qr]; simp; omega),qZ h1,qZ h2,qX _ h1,qX _ h2]
  simp only [Bool.and_self,cond_true]
  rw [List.drop_eq_getElem_cons h1,List.drop_eq_getElem_cons h2,q9] at he
  by_cases hv:vc xs[i] ys[i]=0
  ·rw [if_neg (fun h=>h hv)] at he
   rw [qM (by rw [qaW,hv]; rfl),qao (by omega)]
   exact hih _ ⟨i+1,rfl,h1,h2,he⟩ (by simp only [Int.toNat_natCast]; omega)
  ·rw [if_pos hv] at he
   rw [qG (by rw [qaW]; simp [hv]),he]
 ·rw [qM (by rw [qbi,qlW,qr,qr]; simp; omega)]
  rw [qoa xs ys i h hx hy] at he
  rw [qr,qr,he]
theorem qir (N:Nat) (xs ys:qbA) (hN:xs.length<N) (hB:N≤1099511627776):qbN N (xs,(ys,()))=some ((q9 xs ys,()),()):=by
 simp only [qbN,qJ,qwu,qd,qg,cond_true,Bool.and_true]
 refine qeK (S:=Int×Unit) (R:=(Int×Unit)×Unit) (fun p=>xs.length - p.1.toNat) (fun p=>∃i:Nat,p.1=(i:Int)∧i≤xs.length∧i≤ys.length∧q9 (xs.drop i) (ys.drop i)=q9 xs ys) (fun _=>((q9 xs ys,()),())) ?_ N _ ⟨0,rfl,Nat.zero_le _,Nat.zero_le _,rfl⟩ (by simp; omega)
 rintro ih ⟨_,_⟩ ⟨i,rfl,hx,hy,he⟩ hih
 simp only [Int.toNat_natCast] at hih⊢
 by_cases h:i<xs.length∧i<ys.length
 ·obtain ⟨h1,h2⟩:=h
  rw [qbt h1,qbt h2,qZ h1,qZ h2,qX _ h1,qX _ h2]
  simp only [Bool.and_self,cond_true]
  rw [List.drop_eq_getElem_cons h1,List.drop_eq_getElem_cons h2,q9] at he
  have hs:=qt6 xs[i] ys[i]
  rcases qrn xs[i] ys[i] with hv|hv|hv
  ·rw [if_pos (by omega)] at he
   rw [qG (by rw [hv]; rfl),←he,hv]
  ·rw [if_neg (fun h=>h hv)] at he
   rw [qM (by rw [hv]; rfl),qM (by rw [hs,hv]; rfl),qao (by omega)]
   exact hih _ ⟨i+1,rfl,h1,h2,he⟩ (by simp only [Int.toNat_natCast]; omega)
  ·rw [if_pos (by omega)] at he
   rw [qM (by rw [hv]; rfl),qG (by rw [hs,hv]; rfl),←he,hv]
 ·rw [qM (by
   rw [qbi,qbi,qr,qr]
   simp only [Bool.and_eq_false_iff,decide_eq_false_iff_not]
   omega)]
  rw [qoa xs ys i h hx hy] at he
  rw [qr,qr,←he]
  have:=qbl (xs.length:Int) (ys.length:Int)
  rcases this with ⟨h1,h2⟩|⟨h1,h2⟩|⟨h1,h2⟩
  ·rw [qG (by rw [qbi]; simp; omega),h2]
  ·rw [qM (by rw [qbi]; simp; omega),qM (by rw [qbi]; simp; omega),h2]
  ·rw [qM (by rw [qbi]; simp; omega),qG (by rw [qbi]; simp; omega),h2]
theorem qs4 (N:Nat) (pk:List Int) (row:qbA) (hN:pk.length<N) (hb:pk.length≤1099511627776):
  qY (S:=((List qb)×(Int×Unit))) (R:=(((List qb)×Unit)×Unit)) N (fun ih0=>(fun p1=>(bif (ltI p1.2.1 (qn pk)) then (bif (inB p1.2.1 (qn pk)) then (qL ((leI 0 (qf pk p1.2.1 0))&&(ltI (qf pk p1.2.1 0) (qn row))) (fun y2=>(bif (bif y2 then (inB (qf pk p1.2.1 0) (qn row)) else true) then (qL (bif y2 then (qf row (qf pk p1.2.1 0) (0,(0,(([]:List UInt8),())))) else (0,(0,(([]:List UInt8),())))) (fun y3=>(bif (qc2 (qn p1.1) (qn ([y3]:List qb)) 32) then (ih0 ((qgD p1.1 ([y3]:List qb)),((qI .i64 p1.2.1 1),()))) else none))) else none))) else none) else (some ((p1.1,()),()))))) (([]:List qb),(0,()))=some ((qbW pk row,()),()):=by
 simp only [qJ]
 refine qmq (S:=((List qb)×(Int×Unit))) (fun i=>(qbW (pk.take i) row,((i:Int),()))) pk.length _ (by simp [qbW]) (fun i hi ih=> ?_) (fun ih=> ?_) hN
 ·have e1:qbW (pk.take (i+1)) row=qbW (pk.take i) row++[qmK row pk[i]]:=by unfold qbW; rw [qee hi,List.map_append]; rfl
  have e2:(bif (leI 0 pk[i]&&ltI pk[i] (qn row)) then qf row pk[i] (0,(0,(([]:List UInt8),()))) else (0,(0,(([]:List UInt8),()))))=qmK row pk[i]:=by
   unfold qmK
   by_cases h:0≤pk[i]∧pk[i]<(row.length:Int)
   ·rw [dif_pos h,qG (by rw [qbd,qbi,qr]; simp; exact h)]
    obtain ⟨k,hk⟩:∃k:Nat,pk[i]=(k:Int):=⟨pk[i].toNat,by omega⟩
    have hk':k<row.length:=by omega
    simp only [hk,Int.toNat_natCast]
    exact qX _ hk'
   ·rw [dif_neg h,qM (by rw [qbd,qbi,qr]; simp; omega)]
  have e3:(bif (leI 0 pk[i]&&ltI pk[i] (qn row)) then inB pk[i] (qn row) else true)=true:=by
   cases hc:(leI 0 pk[i]&&ltI pk[i] (qn row)) with
   |false=>rfl
   |true=>
    rw [qbd,qbi,qr] at hc
    rw [cond_true,qdc,qr]
    simpa using hc
  simp only
  rw [qG (qbt hi),qZ hi,cond_true,qX _ hi,e3,cond_true,e2,qG (qeo (by rw [ql2,List.length_take]; simp; omega)),qao (by omega),qcy,e1]
 ·simp only
  rw [qM (qaX (Nat.lt_irrefl _)),List.take_length]
theorem qvF (N:Nat) (t:qz) (row:qbA) (hN:t.2.2.1.length<N) (hB:N≤1099511627776):qcB N (t,(row,()))=some ((qbW t.2.2.1 row,()),()):=qs4 N t.2.2.1 row hN (by omega)
theorem qvu (N:Nat) (t:qz) (row:qbA) (hN:t.2.2.1.length<N) (hB:N≤1099511627776):qcW N (t,(row,()))=some ((qbW t.2.2.1 row,()),()):=by
 have h:qc3 N (row,(t.2.2.1,()))=some ((qbW t.2.2.1 row,()),()):=qs4 N t.2.2.1 row hN (by omega)
 simp only [qcW,h,qd,qg,cond_true]
theorem qmR (N:Nat) (xs:qbA) (h:xs.length≤1099511627776):qaa N (xs,())=some ((xs,()),()):=qut xs 32 (by omega)
theorem qp4 (N:Nat) (xs ys:List qbA) (φ:(qbA×(qbA×Unit))→Option (Bool×Unit)) (hφ:∀a∈xs,∀b∈ys,φ (a,(b,()))=some (decide (a=b),())) (hN:xs.length<N) (hB:N≤1099511627776):
  qa7 N (xs,(ys,(φ,())))=some ((decide (xs=ys),()),()):=by
 simp only [qa7]
 by_cases hl:xs.length=ys.length
 ·rw [qM (by rw [qaW,qr,qr,hl]; simp)]
  refine qeK (S:=Int×Unit) (R:=(Bool×Unit)×Unit) (fun p=>xs.length - p.1.toNat) (fun p=>∃i:Nat,p.1=(i:Int)∧i≤xs.length∧xs.take i=ys.take i) (fun _=>((decide (xs=ys),()),())) ?_ N _ ⟨0,rfl,Nat.zero_le _,by simp⟩ (by simp; omega)
  rintro ih ⟨_,_⟩ ⟨i,rfl,h2,h3⟩ hih
  simp only [Int.toNat_natCast] at hih⊢
  by_cases hi:i<xs.length
  ·have hj:i<ys.length:=by omega
   rw [qG (qbt hi),qZ hi,qZ hj,qX _ hi,qX _ hj,hφ _ (List.getElem_mem hi) _ (List.getElem_mem hj)]
   simp only [qd,qg,cond_true]
   by_cases e:xs[i]=ys[i]
   ·rw [qM (by simp [e]),qao (by omega),hih _ ⟨i+1,rfl,by omega,by rw [qee hi,qee hj,h3,e]⟩ (by simp only [Int.toNat_natCast]; omega)]
   ·rw [qG (by simp [e])]
    have:xs≠ys:=fun h=>e (by subst h; rfl)
    simp [this]
  ·rw [qM (qaX hi)]
   have e1:i=xs.length:=by omega
   subst e1
   have:xs=ys:=by
    have:=h3
    rwa [List.take_length,hl,List.take_length] at this
   simp [this]
 ·rw [qG (by rw [qaW,qr,qr]; simp; omega)]
  have:xs≠ys:=fun h=>hl (by rw [h])
  simp [this]
theorem qpD (N:Nat) (xs ys:List qbA) (hN:xs.length<N) (hB:N≤1099511627776) (hx:∀r∈xs,(qeA r).length≤1099511627776) (hy:∀r∈ys,(qeA r).length≤1099511627776):qcb N (xs,(ys,()))=some ((decide (xs=ys),()),()):=by
 have:=qp4 N xs ys (fun x0=>(qf8 (fun y1=>(y1.1.1,())) (qbK N (x0.1,(x0.2.1,()))))) (fun a ha b hb=>by
  simp only [qbK,qmA N a (hx a ha),qmA N b (hy b hb),qd,qg,Bool.and_self,cond_true,qbg,qbX,Option.map_some]
  by_cases h:a=b
  ·simp [h]
  ·have:qeA a≠qeA b:=fun e=>h (qoY e)
   simp [h,this]) hN hB
 simp only [qcb,this,qd,qg,cond_true]
theorem qvl (N:Nat) (xs ys:qbA) (hN:xs.length<N) (hb:xs.length≤1099511627776):qbv N (xs,(ys,()))=some ((decide (xs=ys),()),()):=by
 simp only [qbv]
 by_cases hl:xs.length=ys.length
 ·rw [qM (by rw [qaW,qr,qr,hl]; simp)]
  refine qmI (ne:=fun (a b:qb)=> !((eqI a.1 b.1)&&((eqI a.2.1 b.2.1)&&(eqS a.2.2.1 b.2.2.1)))) (fun a b=> ?_) xs ys (0,(0,(([]:List UInt8),()))) hl hb hN
  obtain ⟨a1,a2,a3,⟨⟩⟩:=a
  obtain ⟨b1,b2,b3,⟨⟩⟩:=b
  simp only [qbg,qb7,Prod.mk.injEq,and_true,Bool.decide_and]
 ·rw [qG (by rw [qaW,qr,qr]; simp; omega)]
  have:xs≠ys:=fun h=>hl (by rw [h])
  simp [this]
end
end Go.Proofs.YtfcdfdnlgfebmaaGreatDoor
namespace Go.Proofs.YtfcdfdnlgfebmaaGreatDoor
open Go.Vi
noncomputable section
theorem qeN {g:Nat→Option Int} {n:Nat} (h:∀i e,g i=some e→e≠0) {z:Int} (hz:(match qaf g n with
  |some e=>e
  |none=>z)=0):qaf g n=none∧z=0:=by
 cases hf:qaf g n with
 |none=>rw [hf] at hz; exact ⟨rfl,hz⟩
 |some e=>
  rw [hf] at hz
  obtain ⟨i,_,h2,_⟩:=qcS hf
  exact absurd hz (h i e h2)
theorem qtY (ts:List qz):∀i e,qro ts i=some e→e≠0:=fun i e h=>by
 unfold qro at h
 split at h
 ·cases h
 split at h
 ·rename_i hv; injection h with h; subst h; exact hv
 split at h
 ·injection h with h; subst h; decide
 ·cases h
theorem qvs (s:qc):∀i e,fkL s i=some e→e≠0:=fun i e h=>by
 unfold fkL at h
 split at h
 ·cases h
 split at h
 ·rename_i hv; injection h with h; subst h; exact hv
 split at h
 ·injection h with h; subst h; decide
 ·cases h
theorem qsJ (s:qc):∀i e,qrk s i=some e→e≠0:=fun i e h=>by
 unfold qrk at h
 split at h
 ·cases h
 split at h
 ·rename_i hv; injection h with h; subst h; exact hv
 split at h
 ·injection h with h; subst h; decide
 ·cases h
theorem quF (t r:qz) (cs:List Int):∀i e,fkE t r cs i=some e→e≠0:=fun i e h=>by
 unfold fkE at h
 split at h
 ·cases h
 split at h
 ·injection h with h; subst h; decide
 split at h
 ·injection h with h; subst h; decide
 ·cases h
structure qkl (s:qc):Prop where
 tabs:qaf (qro s.1) s.1.length=none
 few:s.1.length≤6
 fks:∀f∈s.2.1,vFk s f=0
 cons:∀c∈s.2.2.1,quy s c=0
theorem qpa {s:qc} (h:qp0 s=0):qkl s:=by
 unfold qp0 at h
 split at h
 ·cases h
 rename_i h0
 obtain ⟨h1,h⟩:=qeN (qtY s.1) h
 obtain ⟨h2,h⟩:=qeN (qvs s) h
 obtain ⟨h3,_⟩:=qeN (qsJ s) h
 refine ⟨h1,by omega,fun f hf=> ?_,fun c hc=> ?_⟩
 ·obtain ⟨i,hi,rfl⟩:=List.getElem_of_mem hf
  have:=qa3 h2 i hi
  simp only [fkL,List.getElem?_eq_getElem hi] at this
  split at this
  ·cases this
  ·rename_i hv; simpa using hv
 ·obtain ⟨i,hi,rfl⟩:=List.getElem_of_mem hc
  have:=qa3 h3 i hi
  simp only [qrk,List.getElem?_eq_getElem hi] at this
  split at this
  ·cases this
  ·rename_i hv; simpa using hv
theorem qdR {a b c:List UInt8} (h1:qcf a b=true) (h2:qcf b c=true):qcf a c=true:=by
 rw [qjX,decide_eq_true_eq] at *
 exact qoK a b c h1 h2
theorem qci (a:List UInt8):qcf a a=false:=by
 rw [qjX,(qov a a).2 rfl]; rfl
theorem qkl.names {s:qc} (h:qkl s):s.1.Pairwise (fun a b=>qcf a.1 b.1=true):=
 qmc (fun a b:qz=>qcf a.1 b.1=true) (fun _ _ _ h1 h2=>qdR h1 h2) s.1 fun i hi=>by
  have:=qa3 h.tabs (i+1) hi
  simp only [qro,List.getElem?_eq_getElem hi] at this
  split at this
  ·cases this
  split at this
  ·cases this
  rename_i hq
  have e:((i+1:Nat):Int) - 1=(i:Int):=by omega
  rw [e,qX _ (show i<s.1.length by omega)] at hq
  simpa using hq
theorem qkl.self {s:qc} (h:qkl s) {i:Nat} (hi:i<s.1.length):qjU (qdj (s.1[i]).1) s.1=some i:=by
 cases hx:qjU (qdj (s.1[i]).1) s.1 with
 |none=>
  have:=qme hx _ (List.getElem_mem hi)
  simp [qdj] at this
 |some j=>
  obtain ⟨hj,h1,h2⟩:=qh5 hx
  by_cases hij:j=i
  ·rw [hij]
  ·have hji:j<i:=by
    by_cases hlt:i<j
    ·have:=h2 i hlt
     simp [qdj] at this
    ·omega
   have:=List.pairwise_iff_getElem.1 h.names j i hj hi hji
   have e:(s.1[j]).1=(s.1[i]).1:=by simpa [qdj] using h1
   rw [e,qci] at this
   cases this
theorem qkl.fk {s:qc} (h:qkl s) {f:qH} (hf:f∈s.2.1):∃t r,qfj s f.1=some t∧qfj s f.2.2.1=some r∧f.2.1.length=r.2.2.1.length∧∀c∈f.2.1,0≤c∧c<(t.2.1.length:Int):=by
 have:=h.fks f hf
 unfold vFk at this
 split at this
 ·rename_i t r h1 h2
  split at this
  ·cases this
  rename_i hl
  obtain ⟨h3,_⟩:=qeN (quF t r f.2.1) this
  refine ⟨t,r,h1,h2,by omega,fun c hc=> ?_⟩
  obtain ⟨j,hj,rfl⟩:=List.getElem_of_mem hc
  have:=qa3 h3 j hj
  simp only [fkE,List.getElem?_eq_getElem hj] at this
  split at this
  ·cases this
  ·omega
 ·cases this
theorem qkl.con {s:qc} (h:qkl s) {c:qV} (hc:c∈s.2.2.1):∃t,qfj s c.1=some t∧0≤c.2.1∧c.2.1<(t.2.1.length:Int)∧qrR c.2.2.1=true∧ -1≤c.2.2.2.1∧c.2.2.2.1<(t.2.1.length:Int):=by
 have:=h.cons c hc
 unfold quy at this
 split at this
 ·cases this
 rename_i t ht
 split at this
 ·cases this
 rename_i hn
 simp only [not_or] at hn
 exact ⟨t,ht,by omega,by omega,by simpa using hn.2.2.1,by omega,by omega⟩
abbrev qjW:Type:=List UInt8×(List qbA×Unit)
def qqA (t:qz) (row:qbA) (i:Nat):Option Int:=match row[i]? with
 |none=>none
 |some v=>if qq0 v≠0 then some (qq0 v) else if v.1=0∧(qf t.2.1 (i:Int) qkj).2.2.1=false then some 8 else if v.1≠0∧v.1≠(qf t.2.1 (i:Int) qkj).2.1 then some 7 else none
def qu6 (t:qz) (row:qbA):Int:=if row.length≠t.2.1.length then 3 else match qaf (qqA t row) row.length with
 |some e=>e
 |none=>0
theorem qsG (N:Nat) (t:qz) (row:qbA) (hN:row.length<N) (hB:N≤1099511627776):qbL N (t,(row,()))=some ((qu6 t row,()),()):=by
 simp only [qbL,qJ,qnR,qaY]
 unfold qu6
 by_cases h0:row.length≠t.2.1.length
 ·rw [if_pos h0,if_pos h0]
 rw [if_neg h0,if_neg h0]
 have hl:row.length=t.2.1.length:=by omega
 refine (qan (S:=Int×Unit) (fun i=>((i:Int),())) row.length (qqA t row) (fun e=>some ((e,()),())) (some ((0,()),())) rfl (fun i hi _ ih=> ?_) (fun _ ih=> ?_) hN).trans ?_
 ·simp only
  have hit:i<t.2.1.length:=by omega
  rw [qG (qbt hi),qG (qZ hi),qX _ hi,qnc,qao (by omega),qZ hit]
  simp only [qd,qg,cond_true,qqA,List.getElem?_eq_getElem hi,qX _ hit,qaW,qb7,←decide_not,Bool.or_true]
  generalize qq0 row[i]=vv
  generalize (t.2.1[i]).2.2.1=nb
  generalize (t.2.1[i]).2.1=ck
  generalize (row[i]).1=rk
  by_cases q1:vv=0 <;> by_cases q2:rk=0 <;> by_cases q3:rk=ck <;> cases nb <;> first|(simp [q1,q2,q3]; done)|(subst q3; simp [q1,q2])
 ·simp only
  rw [qM (qaX (Nat.lt_irrefl _))]
 ·cases qaf (qqA t row) row.length <;> rfl
theorem qsP (N:Nat) (t:qz) (row:qbA) (hN:row.length<N) (hB:N≤1099511627776):qbM N (t,(row,()))=some ((qu6 t row,()),()):=by
 simp only [qbM,qJ,qnR,qaY]
 unfold qu6
 by_cases h0:row.length≠t.2.1.length
 ·rw [if_pos h0,if_pos h0]
 rw [if_neg h0,if_neg h0]
 have hl:row.length=t.2.1.length:=by omega
 refine (qan (S:=Int×Unit) (fun i=>((i:Int),())) row.length (qqA t row) (fun e=>some ((e,()),())) (some ((0,()),())) rfl (fun i hi _ ih=> ?_) (fun _ ih=> ?_) hN).trans ?_
 ·simp only
  have hit:i<t.2.1.length:=by omega
  rw [qG (qbt hi),qG (qZ hi),qX _ hi,qmO,qao (by omega),qZ hit]
  simp only [qd,qg,cond_true,qqA,List.getElem?_eq_getElem hi,qX _ hit,qaW,qb7,←decide_not,Bool.or_true]
  generalize qq0 row[i]=vv
  generalize (t.2.1[i]).2.2.1=nb
  generalize (t.2.1[i]).2.1=ck
  generalize (row[i]).1=rk
  by_cases q1:vv=0 <;> by_cases q2:rk=0 <;> by_cases q3:rk=ck <;> cases nb <;> first|(simp [q1,q2,q3]; done)|(subst q3; simp [q1,q2])
 ·simp only
  rw [qM (qaX (Nat.lt_irrefl _))]
 ·cases qaf (qqA t row) row.length <;> rfl
abbrev relD:qjW:=(([]:List UInt8),(([]:List qbA),()))
abbrev qwh:qz:=(([]:List UInt8),(([]:List qj),(([]:List Int),())))
def qrQ (t:qz) (rows:List qbA) (i:Nat):Option Int:=match rows[i]? with
 |none=>none
 |some row=>if qu6 t row≠0 then some (qu6 t row) else if 0<i∧q9 (qbW t.2.2.1 (qf rows ((i:Int) - 1) [])) (qbW t.2.2.1 row)=0 then some 9 else if 0<i∧0<q9 (qbW t.2.2.1 (qf rows ((i:Int) - 1) [])) (qbW t.2.2.1 row) then some 6 else none
def relE (ts:List qz) (rels:List qjW) (i:Nat):Option Int:=match rels[i]? with
 |none=>none
 |some r=>if r.1≠(qf ts (i:Int) qwh).1 then some 3 else if 24<r.2.1.length then some 2 else qaf (qrQ (qf ts (i:Int) qwh) r.2.1) r.2.1.length
def qu2 (s:qc) (rels:List qjW):Int:=if rels.length≠s.1.length then 3 else match qaf (relE s.1 rels) rels.length with
 |some e=>e
 |none=>0
structure qtl (N:Nat) (rels:List qjW):Prop where
 n:rels.length<N
 rows:∀r∈rels,r.2.1.length<N
 row:∀r∈rels,∀x∈r.2.1,x.length<N
 enc:∀r∈rels,∀x∈r.2.1,(qeA x).length≤1099511627776
theorem len24x {α:Type} (xs:List α):ltI 24 (qn xs)=decide (24<xs.length):=qlu xs 24
theorem qm2:(a b:qbA)→q9 a b= -1∨q9 a b=0∨q9 a b=1
 |[],ys=>by have:=qbl 0 (ys.length:Int); simp only [q9]; omega
 |_::xs,[]=>by have:=qbl ((xs.length:Int)+1) 0; simp only [q9]; omega
 |x::xs,y::ys=>by
  have h1:=qrn x y
  have h2:=qm2 xs ys
  simp only [q9]
  split <;> assumption
theorem qu7 {t:qz} {row:qbA} (h:qu6 t row=0):row.length=t.2.1.length:=by
 unfold qu6 at h
 split at h
 ·cases h
 ·omega
theorem qrJ (t:qz) (rows:List qbA):∀i e,qrQ t rows i=some e→e≠0:=fun i e h=>by
 unfold qrQ at h
 split at h
 ·cases h
 split at h
 ·rename_i hv; injection h with h; subst h; exact hv
 split at h
 ·injection h with h; subst h; decide
 split at h
 ·injection h with h; subst h; decide
 ·cases h
theorem qto (ts:List qz) (rels:List qjW):∀i e,relE ts rels i=some e→e≠0:=fun i e h=>by
 unfold relE at h
 split at h
 ·cases h
 split at h
 ·injection h with h; subst h; decide
 split at h
 ·injection h with h; subst h; decide
 ·obtain ⟨j,_,h2,_⟩:=qcS h
  exact qrJ _ _ j e h2
structure Form (s:qc) (rels:List qjW):Prop where
 len:rels.length=s.1.length
 name:∀i (hi:i<rels.length) (ht:i<s.1.length),(rels[i]).1=(s.1[i]).1
 row:∀i (hi:i<rels.length) (ht:i<s.1.length),∀r∈(rels[i]).2.1,r.length=(s.1[i]).2.1.length
 sorted:∀i (hi:i<rels.length) (ht:i<s.1.length),(rels[i]).2.1.Pairwise (fun a b=>q9 (qbW (s.1[i]).2.2.1 a) (qbW (s.1[i]).2.2.1 b)<0)
theorem form_of {s:qc} {rels:List qjW} (h:qu2 s rels=0):Form s rels:=by
 unfold qu2 at h
 split at h
 ·cases h
 rename_i h0
 obtain ⟨h1,_⟩:=qeN (qto s.1 rels) h
 have key:∀i (hi:i<rels.length) (ht:i<s.1.length),(rels[i]).1=(s.1[i]).1∧qaf (qrQ s.1[i] (rels[i]).2.1) (rels[i]).2.1.length=none:=fun i hi ht=>by
  have:=qa3 h1 i hi
  simp only [relE,List.getElem?_eq_getElem hi,qX _ ht] at this
  split at this
  ·cases this
  rename_i hq
  split at this
  ·cases this
  exact ⟨by simpa using hq,this⟩
 refine ⟨by omega,fun i hi ht=>(key i hi ht).1,fun i hi ht r hr=> ?_,fun i hi ht=> ?_⟩
 ·obtain ⟨k,hk,rfl⟩:=List.getElem_of_mem hr
  have:=qa3 (key i hi ht).2 k hk
  simp only [qrQ,List.getElem?_eq_getElem hk] at this
  split at this
  ·cases this
  rename_i hv
  exact qu7 (by simpa using hv)
 ·refine qmc (fun a b:qbA=>q9 (qbW (s.1[i]).2.2.1 a) (qbW (s.1[i]).2.2.1 b)<0) (fun _ _ _ h1 h2=>qck _ _ _ h1 h2) (rels[i]).2.1 fun k hk=> ?_
  have:=qa3 (key i hi ht).2 (k+1) hk
  simp only [qrQ,List.getElem?_eq_getElem hk] at this
  rw [show ((k+1:Nat):Int) - 1=(k:Int) by omega,qX _ (show k<(rels[i]).2.1.length by omega)] at this
  split at this
  ·cases this
  split at this
  ·cases this
  rename_i h3
  split at this
  ·cases this
  rename_i h4
  have c:=qm2 (qbW (s.1[i]).2.2.1 (rels[i]).2.1[k]) (qbW (s.1[i]).2.2.1 (rels[i]).2.1[k+1])
  have h3':=fun h=>h3 ⟨Nat.succ_pos _,h⟩
  have h4':=fun h=>h4 ⟨Nat.succ_pos _,h⟩
  omega
def qj4 (s:qc) (rels:List qjW) (n:List UInt8):List qbA:=match qjU (qdj n) s.1 with
 |none=>[]
 |some i=>match rels[i]? with
  |none=>[]
  |some r=>r.2.1
def qrg (s:qc) (n:List UInt8):qz:=(qfj s n).getD qwh
theorem Form.at {s:qc} {rels:List qjW} (h:Form s rels) {n:List UInt8} {t:qz} (ht:qfj s n=some t):∃(i:Nat) (hi:i<s.1.length) (hr:i<rels.length),qjU (qdj n) s.1=some i∧s.1[i]=t∧qj4 s rels n=(rels[i]).2.1∧qrg s n=t:=by
 rcases qem s n with ⟨_,h2⟩|⟨i,t',h1,h2,hi,h3⟩
 ·rw [h2] at ht; cases ht
 ·rw [h2] at ht
  injection ht with ht
  subst ht
  have hr:i<rels.length:=by rw [h.len]; exact hi
  refine ⟨i,hi,hr,h1,?_,?_,?_⟩
  ·have:=h3 qwh; rwa [qX _ hi] at this
  ·unfold qj4; rw [h1]; simp only [List.getElem?_eq_getElem hr]
  ·unfold qrg; rw [h2]; rfl
def anyE {α E:Type} (q:α→Bool) (e:E) (xs:List α) (i:Nat):Option E:=match xs[i]? with
 |none=>none
 |some x=>if q x=true then some e else none
theorem anyE_first {α E:Type} (q:α→Bool) (e:E) (xs:List α):qaf (anyE q e xs) xs.length=if xs.any q=true then some e else none:=by
 cases hf:qaf (anyE q e xs) xs.length with
 |none=>
  have:xs.any q=false:=by
   rw [List.any_eq_false]
   intro x hx hq
   obtain ⟨i,hi,rfl⟩:=List.getElem_of_mem hx
   have:=qa3 hf i hi
   simp only [anyE,List.getElem?_eq_getElem hi,hq,if_true] at this
   cases this
  rw [this]
  rfl
 |some e'=>
  obtain ⟨i,hi,h2,_⟩:=qcS hf
  simp only [anyE,List.getElem?_eq_getElem hi] at h2
  split at h2
  ·rename_i hq
   rw [if_pos (List.any_eq_true.2 ⟨_,List.getElem_mem hi,hq⟩),h2]
  ·cases h2
theorem cellV_at (row:qbA) {i:Int} (h1:0≤i) (h2:i<(row.length:Int)):qf row i (0,(0,(([]:List UInt8),())))=qmK row i:=by
 obtain ⟨k,rfl⟩:∃k:Nat,i=(k:Int):=⟨i.toNat,by omega⟩
 have hk:k<row.length:=by omega
 rw [qX _ hk,qmK,dif_pos ⟨h1,h2⟩]
 simp only [Int.toNat_natCast]
def satB (a:qok) (op:List UInt8) (b:qok):Bool:=decide (a.1=0)||(decide (b.1=0)||((decide (vc a b=0)&& !decide (op=[60]))||(decide (vc a b<0)&& !decide (op=[61]))))
def satS (c:qV) (row:qbA):Bool:=satB (qmK row c.2.1) c.2.2.1 (if 0≤c.2.2.2.1 then qmK row c.2.2.2.1 else c.2.2.2.2.1)
theorem valSat_eq (N:Nat) (a b:qok) (op:List UInt8) (h:qrR op=true):qbU N (a,(op,(b,())))=some ((satB a op b,(0,())),()):=by
 simp only [qbU,qJ,qn0,qd,qg,cond_true,qbg,qb7,qcs,satB]
 unfold qrR at h
 generalize decide (a.1=0)=a0
 generalize decide (b.1=0)=b0
 generalize decide (op=[61])=o1 at *
 generalize decide (op=[60])=o2 at *
 generalize decide (op=[60,61])=o3 at *
 cases a0 <;> cases b0 <;> cases o1 <;> cases o2 <;> cases o3 <;> simp at h⊢
end
end Go.Proofs.YtfcdfdnlgfebmaaGreatDoor
namespace Go.Proofs.YtfcdfdnlgfebmaaGreatDoor
open Go.Vi
noncomputable section
def nullV (v:qok):Bool:=decide (v.1=0)
def refS (s:qc) (rels:List qjW) (f:qH) (row:qbA):Bool:=(qbW f.2.1 row).any nullV||(qj4 s rels f.2.2.1).any (fun r=>decide (qbW (qrg s f.2.2.1).2.2.1 r=qbW f.2.1 row))
structure KSmall (s:qc) (rels:List qjW):Prop where
 kt:∀r∈rels,∀row∈r.2.1,∀t∈s.1,(qeA (qbW t.2.2.1 row)).length≤1099511627776
 kf:∀r∈rels,∀row∈r.2.1,∀f∈s.2.1,(qeA (qbW f.2.1 row)).length≤1099511627776
theorem rowsS_sub {s:qc} {rels:List qjW} {n:List UInt8} {r:qbA} (h:r∈qj4 s rels n):∃q∈rels,r∈q.2.1:=by
 unfold qj4 at h
 split at h
 ·cases h
 split at h
 ·cases h
 ·rename_i i _ q hq
  obtain ⟨hi,rfl⟩:=List.getElem?_eq_some_iff.1 hq
  exact ⟨_,List.getElem_mem hi,h⟩
theorem rowsS_len {N:Nat} {s:qc} {rels:List qjW} (n:List UInt8) (hr:qtl N rels) (h0:0<N):(qj4 s rels n).length<N:=by
 unfold qj4
 split
 ·exact h0
 split
 ·exact h0
 ·rename_i i _ q hq
  obtain ⟨hi,rfl⟩:=List.getElem?_eq_some_iff.1 hq
  exact hr.rows _ (List.getElem_mem hi)
theorem Form.rowLen {s:qc} {rels:List qjW} (h:Form s rels) {n:List UInt8} {t:qz} (ht:qfj s n=some t) {r:qbA} (hr:r∈qj4 s rels n):r.length=t.2.1.length:=by
 obtain ⟨i,hi,hri,_,e2,e3,_⟩:=h.at ht
 rw [e3] at hr
 rw [h.row i hri hi r hr,e2]
theorem qwo {pk:List Int} {rows:List qbA} (h:rows.Pairwise (fun a b=>q9 (qbW pk a) (qbW pk b)<0)) (key:qbA):(qiA (fun r=>q9 (qbW pk r) key) rows).2=rows.any (fun r=>decide (qbW pk r=key)):=by
 rw [qoN _ rows (h.imp fun {a b} hab h0=> ?_)]
 ·have e:(fun r=>decide (q9 (qbW pk r) key=0))=fun r=>decide (qbW pk r=key):=funext fun r=>decide_eq_decide.2 (qfG _ _)
  rw [e]
 ·have c:=qm2 (qbW pk b) key
  rcases c with c|c|c
  ·have:=qck _ _ _ hab (show q9 (qbW pk b) key<0 by omega)
   omega
  ·have:=(qfG _ _).1 c
   rw [this] at hab
   omega
  ·omega
def badF (s:qc) (rels:List qjW) (f:qH):Bool:=(qj4 s rels f.1).any (fun r=> !refS s rels f r)
def badC (s:qc) (rels:List qjW) (c:qV):Bool:=(qj4 s rels c.1).any (fun r=> !satS c r)
def vInst (s:qc) (rels:List qjW):Int:=if qu2 s rels≠0 then qu2 s rels else if s.2.1.any (badF s rels)=true then 10 else if s.2.2.1.any (badC s rels)=true then 11 else 0
end
end Go.Proofs.YtfcdfdnlgfebmaaGreatDoor
namespace Go.Proofs.YtfcdfdnlgfebmaaGreatDoor
open Go.Vi
noncomputable section
theorem rel_eq (a b:qjW):(decide (a.1=b.1)&&decide (a.2.1=b.2.1))=decide (a=b):=by
 obtain ⟨a1,a2,⟨⟩⟩:=a
 obtain ⟨b1,b2,⟨⟩⟩:=b
 rw [←Bool.decide_and]
 exact decide_eq_decide.2 (by simp only [Prod.mk.injEq,and_true])
def qsW (s:qc):List qjW:=s.1.map fun t=>(t.1,(([]:List qbA),()))
theorem qvA {N:Nat} {s:qc} (hs:qdC N s):qtl N (qsW s):=by
 have ht:=hs.sm.t
 have hm:=hs.m
 have key:∀r∈qsW s,r.2.1=[]:=fun r hr=>by
  obtain ⟨t,_,rfl⟩:=List.mem_map.1 hr
  rfl
 refine ⟨by unfold qsW; rw [List.length_map]; exact ht,fun r hr=>by rw [key r hr]; simp; omega,fun r hr x hx=> ?_,fun r hr x hx=> ?_⟩
 ·rw [key r hr] at hx; cases hx
 ·rw [key r hr] at hx; cases hx
theorem findIdx (s:qc) (rels:List qjW) (n:List UInt8):
  (bif ((leI 0 (qkS (qdj n) s.1))&&(ltI (qkS (qdj n) s.1) (qn rels))) then inB (qkS (qdj n) s.1) (qn rels) else true)=true∧
  (bif (leI 0 (qkS (qdj n) s.1)) then inB (qkS (qdj n) s.1) (qn s.1) else true)=true∧
  (bif ((leI 0 (qkS (qdj n) s.1))&&(ltI (qkS (qdj n) s.1) (qn rels))) then (qf rels (qkS (qdj n) s.1) relD).2.1 else ([]:List qbA))=qj4 s rels n∧
  (bif (leI 0 (qkS (qdj n) s.1)) then qf s.1 (qkS (qdj n) s.1) qwh else qwh)=qrg s n:=by
 rcases qem s n with ⟨h1,h2⟩|⟨i,t,h1,h2,hi,h3⟩
 ·have e:qkS (qdj n) s.1= -1:=by rw [qkS,h1]
  have e0:leI 0 (-1)=false:=by rw [qbd]; rfl
  simp only [e,e0,Bool.false_and,cond_false,qj4,h1,qrg,h2,Option.getD_none,and_self]
 ·have e:qkS (qdj n) s.1=(i:Int):=by rw [qkS,h1]
  have e0:leI 0 (i:Int)=true:=by rw [qbd]; simp
  by_cases hl:i<rels.length
  ·simp only [e,e0,qbt hl,qZ hl,qZ hi,Bool.and_self,cond_true,h3,qX _ hl,qj4,h1,List.getElem?_eq_getElem hl,qrg,h2,Option.getD_some,and_self]
  ·simp only [e,e0,qaX hl,qZ hi,Bool.true_and,Bool.and_false,cond_true,cond_false,h3,qj4,h1,List.getElem?_eq_none (show rels.length≤i by omega),qrg,h2,Option.getD_some,and_self]
end
end Go.Proofs.YtfcdfdnlgfebmaaGreatDoor
namespace Go.Proofs.YtfcdfdnlgfebmaaGreatDoor
open Go.Vi
noncomputable section
theorem qgF {α:Type} (f:α→Nat): {l:List α} → {x:α} →x∈l→f x≤(l.map f).sum
 |y::l,x,h=>by
  rw [List.map_cons,List.sum_cons]
  rcases List.mem_cons.1 h with rfl|h
  ·omega
  ·have:=qgF f h; omega
theorem qjH {α:Type} (f:α→Nat):(l:List α)→(∀x∈l,1≤f x)→l.length≤(l.map f).sum
 |[],_=>Nat.zero_le _
 |x::l,h=>by
  have h1:=h x List.mem_cons_self
  have h2:=qjH f l fun y hy=>h y (List.mem_cons_of_mem _ hy)
  rw [List.map_cons,List.sum_cons,List.length_cons]; omega
theorem qow (t:qz):qnW.bulk t=t.1.length+1+((t.2.1.map quC.bulk).sum+1+((t.2.2.1.map (Ty.bulk (.int .i64))).sum+1+1)):=by
 obtain ⟨t1,t2,t3,⟨⟩⟩:=t; rfl
theorem quX (c:qj):quC.bulk c=c.1.length+1+(1+(1+1)):=by
 obtain ⟨c1,c2,c3,⟨⟩⟩:=c; rfl
theorem qtL (f:qH):TFk.bulk f=f.1.length+1+((f.2.1.map (Ty.bulk (.int .i64))).sum+1+(f.2.2.1.length+1+1)):=by
 obtain ⟨f1,f2,f3,⟨⟩⟩:=f; rfl
theorem qt3 {t:qz} (h:qnW.bulk t≤1048576):qpN 2000000 t:=by
 rw [qow,qed] at h
 have h1:=qjH quC.bulk t.2.1 fun c _=>qe4 quC c
 refine ⟨by omega,by omega,by omega,by omega,by omega,fun c hc=> ?_⟩
 have:=qgF quC.bulk hc
 rw [quX] at this
 omega
theorem qsI {s:qc} (h:qvd.bulk s≤1048576):qdC 2000000 s:=by
 obtain ⟨a,b,c,⟨⟩⟩:=s
 rw [qkO] at h
 have h1:=qjH qnW.bulk a fun x _=>qe4 qnW x
 have h2:=qjH TFk.bulk b fun x _=>qe4 TFk x
 have h3:=qjH qu1.bulk c fun x _=>qe4 qu1 x
 have ht:∀t∈a,qpN 2000000 t:=fun t ht=>qt3 (by have:=qgF qnW.bulk ht; omega)
 have hf:∀f∈b,f.2.1.length<2000000:=fun f hf=>by
  have:=qgF TFk.bulk hf
  rw [qtL,qed] at this
  omega
 exact ⟨⟨by omega,by simp only; omega,by simp only; omega,by simp only; omega,fun t h=>(ht t h).c,fun t h=>(ht t h).k,hf,fun t h=>(ht t h).nm,fun t h=>(ht t h).cn⟩,by omega⟩
theorem tabC_inj {a b:qz} (h:qtI a=qtI b):a=b:=(qnj (r:=[]) (s:=[]) (by rw [List.append_nil,List.append_nil]; exact h)).1
theorem qwq {a b:Nat} (h:a+b≤1048576):a * (67+b)≤1000000000000:=by
 rcases Nat.le_total a 524288 with h1|h1
 ·have:=Nat.mul_le_mul h1 (show 67+b≤67+1048576 by omega)
  omega
 ·have:=Nat.mul_le_mul (show a≤1048576 by omega) (show 67+b≤67+524288 by omega)
  omega
theorem quh {M:Nat} :(r:qbA)→(∀v∈r,(qjO v).length≤M)→((r.map qjO).flatten).length≤r.length * M
 |[],_=>by simp
 |v::r,h=>by
  have h1:=h v List.mem_cons_self
  have h2:=quh r fun u hu=>h u (List.mem_cons_of_mem _ hu)
  simp only [List.map_cons,List.flatten_cons,List.length_append,List.length_cons,Nat.add_mul,Nat.one_mul] at h2⊢
  omega
theorem qiR {r:qbA} {a b:Nat} (ha:r.length≤a) (hab:a+b≤1048576) (h:∀v∈r,qiZ.good v∧v.2.2.1.length≤b):(qeA r).length≤1099511627776:=by
 have h1:=quh (M:=67+b) r fun v hv=>by
  obtain ⟨⟨g1,g2,g3,_⟩,g4⟩:=h v hv
  have:=qd8 (v:=v) ⟨g1,g2,g3⟩
  omega
 have h2:=Nat.mul_le_mul_right (67+b) ha
 have h3:=qwq hab
 have h4:=qcu (n:=r.length) (by unfold maxLen; omega)
 unfold qeA
 rw [List.length_append]
 omega
theorem qky:(r:qbA)→∀v∈r,v.2.2.1.length+r.length≤(r.map qiZ.bulk).sum
 |[],v,hv=>by cases hv
 |u::r,v,hv=>by
  have hu:qiZ.bulk u=1+(1+(u.2.2.1.length+1+1)):=rfl
  have hr:r.length≤(r.map qiZ.bulk).sum:=by
   have:=qiP qiZ r
   have e:(Ty.slice qiZ).bulk r=(r.map qiZ.bulk).sum+1:=rfl
   omega
  simp only [List.map_cons,List.sum_cons,List.length_cons]
  rcases List.mem_cons.1 hv with rfl|hv
  ·omega
  ·have:=qky r v hv
   omega
theorem qpR:(rows:List qbA)→∀r∈rows,(r.map qiZ.bulk).sum+1≤(rows.map (Ty.slice qiZ).bulk).sum
 |[],r,hr=>by cases hr
 |q::rows,r,hr=>by
  simp only [List.map_cons,List.sum_cons]
  have e:(Ty.slice qiZ).bulk q=(q.map qiZ.bulk).sum+1:=rfl
  rcases List.mem_cons.1 hr with rfl|hr
  ·omega
  ·have:=qpR rows r hr
   omega
abbrev qvg:Ty:= .pair .str (.pair (.slice (.slice qiZ)) .unit)
theorem qvm (r:qjW):qvg.bulk r=r.1.length+1+((r.2.1.map (Ty.slice qiZ).bulk).sum+1+1):=by
 obtain ⟨r1,r2,⟨⟩⟩:=r; rfl
theorem qpB (row:qbA) (i:Int):qmK row i∈row∨qmK row i=zV:=by
 unfold qmK
 split
 ·exact .inl (List.getElem_mem _)
 ·exact .inr rfl
structure RIn (b:Nat) (rels:List qjW):Prop where
 good:∀r∈rels,∀row∈r.2.1,∀v∈row,qiZ.good v
 bulk:(rels.map qvg.bulk).sum≤b
theorem rin_of {rels:List qjW} {b:Nat} (hg:(Ty.slice qvg).good rels) (hb:(Ty.slice qvg).bulk rels≤b+1):RIn b rels:=by
 have e:(Ty.slice qvg).bulk rels=(rels.map qvg.bulk).sum+1:=rfl
 refine ⟨fun r hr row hrow v hv=> ?_,by omega⟩
 have h:=hg.2 r hr
 obtain ⟨r1,r2,⟨⟩⟩:=r
 exact (h.2.1.2 row hrow).2 v hv
theorem rlen (r:qbA):r.length≤(r.map qiZ.bulk).sum:=by
 have:=qiP qiZ r
 have e:(Ty.slice qiZ).bulk r=(r.map qiZ.bulk).sum+1:=rfl
 omega
theorem RIn.rows {b:Nat} {rels:List qjW} (h:RIn b rels) {r:qjW} (hr:r∈rels):r.2.1.length≤b∧∀row∈r.2.1,(row.map qiZ.bulk).sum≤b:=by
 have h1:=qgF qvg.bulk hr
 have h2:=h.bulk
 rw [qvm] at h1
 refine ⟨?_,fun row hrow=> ?_⟩
 ·have:=qiP (.slice qiZ) r.2.1
  have e:(Ty.slice (.slice qiZ)).bulk r.2.1=(r.2.1.map (Ty.slice qiZ).bulk).sum+1:=rfl
  omega
 ·have:=qpR r.2.1 row hrow
  omega
theorem rsmall_of {b:Nat} {rels:List qjW} (h:RIn b rels) (hb:b≤1048576):qtl 2000000 rels:=by
 refine ⟨?_,fun r hr=> ?_,fun r hr row hrow=> ?_,fun r hr row hrow=> ?_⟩
 ·have h1:=qjH qvg.bulk rels fun x _=>qe4 qvg x
  have:=h.bulk
  omega
 ·have:=(h.rows hr).1; omega
 ·have:=(h.rows hr).2 row hrow
  have:=rlen row
  omega
 ·have h2:=(h.rows hr).2 row hrow
  have h3:=rlen row
  exact qiR (a:=row.length) (b:=1048576 - row.length) (Nat.le_refl _) (by omega) fun v hv=>⟨h.good r hr row hrow v hv,by have:=qky row v hv; omega⟩
theorem qvU {b:Nat} {rels:List qjW} (h:RIn b rels) {cs:List Int} {a:Nat} (hc:cs.length≤a) (hab:a+b≤1048576) {r:qjW} (hr:r∈rels) {row:qbA} (hrow:row∈r.2.1):(qeA (qbW cs row)).length≤1099511627776:=by
 have h2:=(h.rows hr).2 row hrow
 refine qiR (a:=a) (b:=b) (by rw [ql2]; exact hc) hab fun v hv=> ?_
 obtain ⟨i,_,rfl⟩:=List.mem_map.1 hv
 rcases qpB row i with hm|hm
 ·exact ⟨h.good r hr row hrow _ hm,by have:=qky row _ hm; omega⟩
 ·rw [hm]; exact ⟨⟨qc4,qc4,Nat.zero_le _,trivial⟩,Nat.zero_le _⟩
theorem ksmall_of {s:qc} {rels:List qjW} {b:Nat} (h:RIn b rels) (hb:qvd.bulk s+b≤1048576):KSmall s rels:=by
 obtain ⟨x,y,z,⟨⟩⟩:=s
 rw [qkO] at hb
 refine ⟨fun r hr row hrow t ht=>qvU h (a:=qnW.bulk t) ?_ ?_ hr hrow,fun r hr row hrow f hf=>qvU h (a:=TFk.bulk f) ?_ ?_ hr hrow⟩
 ·rw [qow,qed]; omega
 ·have:=qgF qnW.bulk ht; simp only at this; omega
 ·rw [qtL,qed]; omega
 ·have:=qgF TFk.bulk hf; simp only at this; omega
end
end Go.Proofs.YtfcdfdnlgfebmaaGreatDoor
namespace Go.Proofs.YtfcdfdnlgfebmaaGreatDoor
open Go.Vi
noncomputable section
abbrev qcK:Type:=Int×(List UInt8×(qbA×(qbA×Unit)))
def qwg (t:qz) (key:qbA) (i:Nat):Option Int:=match key[i]? with
 |none=>none
 |some v=>if qq0 v≠0 then some (qq0 v) else if v.1≠(qf t.2.1 (qf t.2.2.1 (i:Int) 0) qkj).2.1 then some 7 else none
def vKey (t:qz) (key:qbA):Int:=if key.length≠t.2.2.1.length then 3 else match qaf (qwg t key) key.length with
 |some e=>e
 |none=>0
def quY (c:qcK):Bool:=((decide (c.1=1)&&decide (0<c.2.2.1.length))||(decide (c.1=2)&&decide (0<c.2.2.2.1.length)))||(!decide (c.1=1)&& !decide (c.1=2))
def qkT (s:qc) (c:qcK):Int:=if quY c=true then 3 else match qfj s c.2.1 with
 |none=>4
 |some t=>if c.1=1 then qu6 t c.2.2.2.1 else vKey t c.2.2.1
theorem qte {α:Type} (xs:List α):ltI 0 (qn xs)=decide (0<xs.length):=qlu xs 0
theorem qs5 (N:Nat) (t:qz) (key:qbA) (hk:∀k∈t.2.2.1,0≤k∧k<(t.2.1.length:Int)) (hN:key.length<N) (hB:N≤1099511627776):qca N (t,(key,()))=some ((vKey t key,()),()):=by
 simp only [qca,qJ,qnR,qaY]
 unfold vKey
 by_cases h0:key.length≠t.2.2.1.length
 ·rw [if_pos h0,if_pos h0]
 rw [if_neg h0,if_neg h0]
 have hl:key.length=t.2.2.1.length:=by omega
 refine (qan (S:=Int×Unit) (fun i=>((i:Int),())) key.length (qwg t key) (fun e=>some ((e,()),())) (some ((0,()),())) rfl (fun i hi _ ih=> ?_) (fun _ ih=> ?_) hN).trans ?_
 ·have hip:i<t.2.2.1.length:=by omega
  obtain ⟨c1,c2⟩:=hk _ (List.getElem_mem hip)
  have b3:inB (t.2.2.1[i]) (qn t.2.1)=true:=by rw [qex,qr]; simp; omega
  simp only [qbt hi,qZ hi,cond_true,qX _ hi,qZ hip,qX _ hip,b3,qnc,qd,qg,Bool.and_self,qao (show i<4611686018427387904 by omega),qwg,List.getElem?_eq_getElem hi,qaW,←decide_not,qaY,qkj]
  by_cases h1:qq0 key[i]=0
  ·simp only [h1,not_true_eq_false,ne_eq,if_false]
   split <;> rfl
  ·simp only [h1,not_false_eq_true,ne_eq,if_true]
 ·simp only
  rw [qM (qaX (Nat.lt_irrefl _))]
 ·cases qaf (qwg t key) key.length <;> rfl
theorem qmT (N:Nat) (s:qc) (c:qcK) (hs:qdC N s) (hk:qp7 s) (h1:c.2.2.1.length<N) (h2:c.2.2.2.1.length<N):qbP N (s,(c,()))=some ((qkT s c,()),()):=by
 have hn:=hs.sm.n
 have e0:((((eqI c.1 1)&&(ltI 0 (qn c.2.2.1)))||((eqI c.1 2)&&(ltI 0 (qn c.2.2.2.1))))||((neI c.1 1)&&(neI c.1 2)))=quY c:=by
  simp only [qb7,qaW,qte,quY]
 simp only [qbP,qJ,e0,qcP N s c.2.1 hs.sm.t hn,qd,qg,cond_true]
 unfold qkT
 by_cases hb:quY c=true
 ·rw [if_pos hb,hb]; rfl
 rw [if_neg hb,qM (by simpa using hb)]
 rcases qem s c.2.1 with ⟨g1,g2⟩|⟨i,t,g1,g2,hi,g3⟩
 ·simp only [g1,g2,Option.isSome_none,Bool.not_false,cond_true]
 ·have hm:=qbR g2
  simp only [g1,g2,Option.isSome_some,Option.getD_some,Bool.not_true,cond_false,qZ hi,g3,qsG N t _ h2 hn,qs5 N t _ (hk t hm) h1 hn,qd,qg,Bool.and_self,cond_true,qb7,qaY]
  split <;> rfl
theorem qpj (N:Nat) (s:qc) (c:qcK) (hs:qdC N s) (hk:qp7 s) (h1:c.2.2.1.length<N) (h2:c.2.2.2.1.length<N):qbc N (s,(c,()))=some ((qkT s c,()),()):=by
 have hn:=hs.sm.n
 have e0:((((neI c.1 1)&&(neI c.1 2))||((eqI c.1 1)&&(ltI 0 (qn c.2.2.1))))||((eqI c.1 2)&&(ltI 0 (qn c.2.2.2.1))))=quY c:=by
  simp only [qb7,qaW,qte,quY]
  rw [Bool.or_assoc,Bool.or_comm]
 simp only [qbc,qJ,e0,qfM N s c.2.1 hs.sm.t hn,qd,qg,cond_true]
 unfold qkT
 by_cases hb:quY c=true
 ·rw [if_pos hb,hb]; rfl
 rw [if_neg hb,qM (by simpa using hb)]
 rcases qem s c.2.1 with ⟨g1,g2⟩|⟨i,t,g1,g2,hi,g3⟩
 ·simp only [g2,qgS,Bool.not_false,cond_true]
 ·have hm:=qbR g2
  simp only [g2,qd,qg,Bool.not_true,cond_false,qsP N t _ h2 hn,Bool.and_self,cond_true,qb7,qaY,Bool.true_and]
  by_cases hq:c.1=1
  ·rw [if_pos hq,if_pos hq]
  rw [if_neg hq,if_neg hq]
  simp only [qnR,qaY]
  unfold vKey
  generalize c.2.2.1=key at *
  by_cases h0:key.length≠t.2.2.1.length
  ·rw [if_pos h0,if_pos h0]
  rw [if_neg h0,if_neg h0]
  have hl:key.length=t.2.2.1.length:=by omega
  refine (qan (S:=Int×Unit) (fun i=>((i:Int),())) key.length (qwg t key) (fun e=>some ((e,()),())) (some ((0,()),())) rfl (fun i hi _ ih=> ?_) (fun _ ih=> ?_) h1).trans ?_
  ·have hip:i<t.2.2.1.length:=by omega
   obtain ⟨c1,c2⟩:=hk t hm _ (List.getElem_mem hip)
   have b3:inB (t.2.2.1[i]) (qn t.2.1)=true:=by rw [qex,qr]; simp; omega
   simp only [qbt hi,qZ hi,cond_true,qX _ hi,qZ hip,qX _ hip,b3,qmO,qd,qg,Bool.and_self,qao (show i<4611686018427387904 by omega),qwg,List.getElem?_eq_getElem hi,qaW,←decide_not,qaY,qkj]
   by_cases h1:qq0 key[i]=0
   ·simp only [h1,not_true_eq_false,ne_eq,if_false]
    split <;> rfl
   ·simp only [h1,not_false_eq_true,ne_eq,if_true]
  ·simp only
   rw [qM (qaX (Nat.lt_irrefl _))]
  ·cases qaf (qwg t key) key.length <;> rfl
def qnE (t:qz) (c:qcK):qbA:=if c.1=1 then qbW t.2.2.1 c.2.2.2.1 else c.2.2.1
def qjg (s:qc) (c:qcK):qbA:=qnE (qrg s c.2.1) c
theorem qj0 (N:Nat) (t:qz) (c:qcK) (hN:t.2.2.1.length<N) (h1:c.2.2.1.length<N) (hB:N≤1099511627776):qaw N (t,(c,()))=some ((qnE t c,()),()):=by
 simp only [qaw,qvF N t _ hN hB,qmR N c.2.2.1 (by omega),qd,qg,cond_true,qb7,qaY,qnE]
 split <;> rfl
theorem qeJ (N:Nat) (s:qc) (c:qcK) (hs:qdC N s) {t:qz} (ht:qfj s c.2.1=some t):qK N (s,(c,()))=some ((qjg s c,()),()):=by
 have hn:=hs.sm.n
 have e:qrg s c.2.1=t:=by unfold qrg; rw [ht]; rfl
 simp only [qK,qJ,qfM N s c.2.1 hs.sm.t hn,ht,qd,qg,cond_true,qvu N t _ (hs.tab (qbR ht)).k hn,Bool.and_true,Bool.and_self,qb7,qaY,qjg,qnE,e]
 split <;> rfl
structure qhH (N:Nat) (s:qc) (cs:List qcK):Prop where
 n:2 * cs.length+100<N
 key:∀c∈cs,c.2.2.1.length<N
 row:∀c∈cs,c.2.2.2.1.length<N
 ek:∀c∈cs,(qeA c.2.2.1).length≤1099511627776
 er:∀c∈cs,(qeA c.2.2.2.1).length≤1099511627776
 et:∀c∈cs,∀t∈s.1,(qeA (qnE t c)).length≤1099511627776
 nm:∀c∈cs,c.2.1.length≤1048576
def qsq (s:qc) (cs:List qcK) (i:Nat):Option Int:=match cs[i]? with
 |none=>none
 |some c=>if qkT s c≠0 then some (qkT s c) else none
def qec (s:qc) (cs:List qcK):Int:=if qp0 s≠0 then qp0 s else match qaf (qsq s cs) cs.length with
 |some e=>e
 |none=>0
def qgg (s:qc) (a b:qcK):Bool:=decide (a.2.1=b.2.1)&&decide (qjg s a=qjg s b)
def qfq (s:qc) (cs:List qcK):Nat→List qcK
 |0=>[]
 |n+1=>qfq s cs n++(match cs[n]? with
  |none=>[]
  |some c=>if (cs.drop (n+1)).any (fun l=>qgg s l c)=true then [] else [c])
theorem qkU {s:qc} {cs:List qcK} {i:Nat} (hi:i<cs.length):qfq s cs (i+1)=qfq s cs i++(if (cs.drop (i+1)).any (fun l=>qgg s l cs[i])=true then [] else [cs[i]]):=by
 simp only [qfq,List.getElem?_eq_getElem hi]
theorem qim (s:qc) (cs:List qcK):(n:Nat)→(qfq s cs n).length≤n
 |0=>by simp [qfq]
 |n+1=>by
  have ih:=qim s cs n
  simp only [qfq,List.length_append]
  split
  ·simp; omega
  ·split
   ·simp; omega
   ·simp; omega
theorem qj5 (s:qc) (cs:List qcK):(n:Nat)→∀c∈qfq s cs n,c∈cs
 |0,c,h=>by simp [qfq] at h
 |n+1,c,h=>by
  simp only [qfq,List.mem_append] at h
  rcases h with h|h
  ·exact qj5 s cs n c h
  ·split at h
   ·cases h
   ·rename_i x hx
    obtain ⟨hi,rfl⟩:=List.getElem?_eq_some_iff.1 hx
    split at h
    ·cases h
    ·rw [List.mem_singleton.1 h]; exact List.getElem_mem hi
theorem qc9 {s:qc} {c:qcK} (h:qkT s c=0):∃(i:Nat) (t:qz) (hi:i<s.1.length),qjU (qdj c.2.1) s.1=some i∧qfj s c.2.1=some t∧s.1[i]=t∧t.1=c.2.1∧qrg s c.2.1=t:=by
 rcases qem s c.2.1 with ⟨g1,g2⟩|⟨i,t,g1,g2,hi,g3⟩
 ·unfold qkT at h
  rw [g2] at h
  split at h <;> cases h
 ·have e:s.1[i]=t:=by have:=g3 qwh; rwa [qX _ hi] at this
  obtain ⟨hj,k1,_⟩:=qh5 g1
  refine ⟨i,t,hi,g1,g2,e,?_,by unfold qrg; rw [g2]; rfl⟩
  rw [←e]
  simpa [qdj] using k1
theorem qnt (N:Nat) (φ:(qcK×Unit)→Option (Bool×Unit)) (q:qcK→Bool) (cs:List qcK) (hφ:∀a∈cs,φ (a,())=some (q a,())) (hN:cs.length<N) (hB:N≤1099511627776):qap N (cs,(φ,()))=some ((cs.any q,()),()):=by
 have e:qbo N (cs,(φ,()))=some ((qkS q cs,()),()):=qe3 φ q cs hφ ((0,(([]:List UInt8),(([]:qbA),(([]:qbA),())))):qcK) N hN (by omega)
 simp only [qap,e,qd,qg,cond_true,qlh,qjZ]
theorem qqD {N:Nat} {t:qz} {c:qcK} (hN:t.2.2.1.length<N) (h1:c.2.2.1.length<N):(qnE t c).length<N:=by
 unfold qnE
 split
 ·rw [ql2]; exact hN
 ·exact h1
theorem qqT (N:Nat) (s:qc) (l c:qcK) {t:qz} (ht:qrg s c.2.1=t) (hN:t.2.2.1.length<N) (h1:l.2.2.1.length<N) (h2:c.2.2.1.length<N) (hB:N≤1099511627776):qb5 N (l,(c,(t,())))=some ((qgg s l c,()),()):=by
 have hl:=qqD (c:=l) hN h1
 simp only [qb5,qj0 N t l hN h1 hB,qj0 N t c hN h2 hB,qd,qg,qvl N _ _ hl (by omega),Bool.or_true,Bool.and_self,cond_true,qbg,qgg]
 have ec:qjg s c=qnE t c:=by unfold qjg; rw [ht]
 by_cases hq:l.2.1=c.2.1
 ·have el:qjg s l=qnE t l:=by unfold qjg; rw [hq,ht]
  rw [ec,el]
 ·simp [hq]
abbrev zChg:qcK:=(0,(([]:List UInt8),(([]:qbA),(([]:qbA),()))))
abbrev phiC (N:Nat) (s:qc):(qcK×(qcK×Unit))→Option (Int×Unit):=fun x5=>(qf8 (fun y6:((Int×Unit)×Unit)=>(y6.1.1,())) (qb6 N (x5.1,(x5.2.1,(s,())))))
abbrev psiC (N:Nat) (s:qc):(qcK×(qcK×Unit))→Option (Int×Unit):=fun x5=>(qf8 (fun y6:((Int×Unit)×Unit)=>(y6.1.1,())) (qau N (x5.1,(x5.2.1,(s,())))))
theorem alikeC (N:Nat) (s:qc) (cs:List qcK) (hs:qdC N s) (hv:qkl s) (hc:qhH N s cs) (hall:∀c∈cs,qkT s c=0):Go.Vi.Alike (fun c=>c∈cs) (phiC N s) (psiC N s):=fun a b ha hb=>by
 have hn:=hs.sm.n
 have hst:=hs.sm.t
 obtain ⟨i,t,hi,a1,a2,a3,a4,a5⟩:=qc9 (hall a ha)
 obtain ⟨k,u,hk,b1,b2,b3,b4,b5⟩:=qc9 (hall b hb)
 have ht:=hs.tab (qbR a2)
 have hu:=hs.tab (qbR b2)
 have less:∀(i k:Nat) (hi:i<s.1.length) (hk:k<s.1.length),i<k→qcf (s.1[i]).1 (s.1[k]).1=true:=fun i k hi hk h=>List.pairwise_iff_getElem.1 hv.names i k hi hk h
 simp only [phiC,psiC,qb6,qau,qJ,qcP N s a.2.1 hst hn,qcP N s b.2.1 hst hn,a1,b1,qd,qg,Option.getD_some,cond_true]
 rcases Nat.lt_trichotomy i k with h|h|h
 ·have e1:neI ((i:Nat):Int) ((k:Nat):Int)=true:=neT (by omega)
  have e2:qE .i64 ((i:Nat):Int) ((k:Nat):Int)=(i:Int) - k:=qak (by omega) (by omega)
  have e3:qcf a.2.1 b.2.1=true:=by have:=less i k hi hk h; rwa [a3,b3,a4,b4] at this
  simp only [e1,e2,e3,cond_true,qbX,Option.map_some]
  exact ⟨_,_,rfl,rfl,by constructor <;> intro _ <;> omega⟩
 ·subst h
  have hut:u=t:=by rw [←a3,←b3]
  subst hut
  have e1:neI ((i:Nat):Int) ((i:Nat):Int)=false:=neF rfl
  have e4:a.2.1=b.2.1:=by rw [←a4,←b4]
  have e3:qcf a.2.1 b.2.1=false:=by rw [e4,qci]
  have e5:eqS a.2.1 b.2.1=true:=by rw [qbg]; simp [e4]
  have l1:=qqD (t:=u) (c:=a) ht.k (hc.key a ha)
  have g:∀d,qf s.1 ((i:Nat):Int) d=u:=fun d=>by rw [qX _ hi,a3]
  have t1:qjg s a=qnE u a:=by rw [qjg,a5]
  have t2:qjg s b=qnE u b:=by rw [qjg,b5]
  simp only [e1,e3,e5,cond_false,Bool.or_true,Bool.not_true,qZ hi,g,qj0 N u a ht.k (hc.key a ha) hn,qj0 N u b ht.k (hc.key b hb) hn,qd,qg,Bool.and_self,cond_true,qnx N (qnE u a) (qnE u b) l1 hn,qeJ N s a hs a2,qeJ N s b hs b2,t1,t2,qir N (qnE u a) (qnE u b) l1 hn,qbX,Option.map_some]
  exact ⟨_,_,rfl,rfl,Iff.rfl⟩
 ·have e1:neI ((i:Nat):Int) ((k:Nat):Int)=true:=neT (by omega)
  have e2:qE .i64 ((i:Nat):Int) ((k:Nat):Int)=(i:Int) - k:=qak (by omega) (by omega)
  have e3':qcf b.2.1 a.2.1=true:=by have:=less k i hk hi h; rwa [a3,b3,a4,b4] at this
  have e3:qcf a.2.1 b.2.1=false:=by
   cases hq:qcf a.2.1 b.2.1 with
   |false=>rfl
   |true=>
    have:=qdR hq e3'
    rw [qci] at this
    cases this
  have e5:eqS a.2.1 b.2.1=false:=by
   rw [qbg]
   refine decide_eq_false fun q=> ?_
   rw [q,qci] at e3'
   cases e3'
  simp only [e1,e2,e3,e5,cond_true,cond_false,Bool.or_self,Bool.not_false,qbX,Option.map_some]
  exact ⟨_,_,rfl,rfl,by constructor <;> intro _ <;> omega⟩
theorem sort_eq (N:Nat) (x:List qcK×(((qcK×(qcK×Unit))→Option (Int×Unit))×Unit)):qT N x=qkf zChg N x:=rfl
theorem qpp (s:qc) (cs:List qcK):∀i e,qsq s cs i=some e→e≠0:=fun i e h=>by
 unfold qsq at h
 split at h
 ·cases h
 split at h
 ·rename_i hv; injection h with h; subst h; exact hv
 ·cases h
theorem qiO {s:qc} {cs:List qcK} (h:qec s cs=0):qp0 s=0∧∀c∈cs,qkT s c=0:=by
 unfold qec at h
 by_cases h0:qp0 s≠0
 ·rw [if_pos h0] at h; exact absurd h h0
 rw [if_neg h0] at h
 obtain ⟨h1,_⟩:=qeN (qpp s cs) h
 refine ⟨by omega,fun c hc=> ?_⟩
 obtain ⟨i,hi,rfl⟩:=List.getElem_of_mem hc
 have:=qa3 h1 i hi
 simp only [qsq,List.getElem?_eq_getElem hi] at this
 split at this
 ·cases this
 ·rename_i hv; simpa using hv
theorem qm8 (s:qc) (cs:List qcK) {i:Nat} (hi:i<cs.length):qsq s cs i=if qkT s cs[i]≠0 then some (qkT s cs[i]) else none:=by
 simp only [qsq,List.getElem?_eq_getElem hi]
theorem qv2 (N:Nat) (s:qc) (cs:List qcK) (hs:qdC N s) (hid:∀f∈s.2.1,(fkC f).length≤1099511627776) (hc:qhH N s cs) (h:qec s cs≠0):
  qaO N (s,(cs,()))=some ((([]:List qcK),(qec s cs,())),())∧qaG N (s,(cs,()))=some ((([]:List qcK),(qec s cs,())),()):=by
 have hn:=hs.sm.n
 have hcl:=hc.n
 simp only [qaO,qaG,qJ,qm7 N s hs,qpY N s hs hid,qd,qg,cond_true]
 unfold qec at h⊢
 by_cases h0:qp0 s≠0
 ·rw [if_pos h0,neT h0]
  exact ⟨rfl,rfl⟩
 rw [if_neg h0] at h⊢
 rw [neF (by omega:qp0 s=0),cond_false,cond_false]
 have hv:=qpa (s:=s) (by omega)
 have hk:=qh2 hv.tabs
 cases hf:qaf (qsq s cs) cs.length with
 |none=>rw [hf] at h; exact absurd rfl h
 |some e=>
  constructor
  ·refine (qan (S:=Int×Unit) (fun i=>((i:Int),())) cs.length (qsq s cs) (fun e=>some ((([]:List qcK),(e,())),())) none rfl (fun i hi _ ih=> ?_) (fun hq _=>by rw [hf] at hq; cases hq) (by omega)).trans (by rw [hf])
   have hm:=List.getElem_mem hi
   simp only [qbt hi,qZ hi,cond_true,qX _ hi,qao (show i<4611686018427387904 by omega),qmT N s _ hs hk (hc.key _ hm) (hc.row _ hm),qd,qg,qm8 s cs hi]
   by_cases h1:qkT s cs[i]≠0
   ·rw [if_pos h1,neT h1]; rfl
   ·rw [if_neg h1,neF (by omega:qkT s cs[i]=0)]; rfl
  ·refine (qan (S:=Int×Unit) (fun i=>((i:Int),())) cs.length (qsq s cs) (fun e=>some ((([]:List qcK),(e,())),())) none rfl (fun i hi _ ih=> ?_) (fun hq _=>by rw [hf] at hq; cases hq) (by omega)).trans (by rw [hf])
   have hm:=List.getElem_mem hi
   simp only [qbt hi,qZ hi,cond_true,qX _ hi,qao (show i<4611686018427387904 by omega),qpj N s _ hs hk (hc.key _ hm) (hc.row _ hm),qd,qg,qm8 s cs hi]
   by_cases h1:qkT s cs[i]≠0
   ·rw [if_pos h1,neT h1]; rfl
   ·rw [if_neg h1,neF (by omega:qkT s cs[i]=0)]; rfl
def idC (s:qc) (c:qcK):List UInt8:=c.2.1++[47]++qeA (qjg s c)
theorem qpw:(a b x y:List UInt8)→(∀c∈a,c≠47)→(∀c∈b,c≠47)→a++[47]++x=b++[47]++y→a=b∧x=y
 |[],[],x,y,_,_,h=>⟨rfl,by simpa using h⟩
 |[],b::bs,x,y,_,hb,h=>by
  simp only [List.nil_append,List.cons_append,List.cons.injEq] at h
  exact absurd h.1.symm (hb b List.mem_cons_self)
 |a::ar,[],x,y,ha,_,h=>by
  simp only [List.nil_append,List.cons_append,List.cons.injEq] at h
  exact absurd h.1 (ha a List.mem_cons_self)
 |a::ar,b::bs,x,y,ha,hb,h=>by
  simp only [List.cons_append,List.cons.injEq] at h
  obtain ⟨h1,h2⟩:=qpw ar bs x y (fun c hc=>ha c (List.mem_cons_of_mem _ hc)) (fun c hc=>hb c (List.mem_cons_of_mem _ hc)) h.2
  exact ⟨by rw [h.1,h1],h2⟩
theorem qkl.nameOk {s:qc} (h:qkl s) {t:qz} (ht:t∈s.1):nameOk t.1=true:=by
 obtain ⟨i,hi,rfl⟩:=List.getElem_of_mem ht
 have:=qa3 h.tabs i hi
 simp only [qro,List.getElem?_eq_getElem hi] at this
 split at this
 ·cases this
 rename_i hv
 have hv:qsB s.1[i]=0:=by simpa using hv
 unfold qsB at hv
 split at hv
 ·cases hv
 ·rename_i hq; simpa using hq
theorem qsY {n:List UInt8} (h:nameOk n=true):∀c∈n,c≠47:=fun c hc e=>by
 subst e
 unfold nameOk at h
 split at h
 ·cases h
 ·rename_i c0 r
  simp only [Bool.and_eq_true,List.all_eq_true] at h
  rcases List.mem_cons.1 hc with rfl|hc
  ·have:=h.2.1; revert this; decide
  ·have:=h.2.2 _ hc; revert this; decide
theorem qvO {s:qc} (hv:qkl s) {a b:qcK} (ha:qkT s a=0) (hb:qkT s b=0):idC s a=idC s b↔qgg s a b=true:=by
 obtain ⟨i,t,hi,a1,a2,a3,a4,a5⟩:=qc9 ha
 obtain ⟨k,u,hk,b1,b2,b3,b4,b5⟩:=qc9 hb
 have na:=qsY (hv.nameOk (qbR a2))
 have nb:=qsY (hv.nameOk (qbR b2))
 rw [a4] at na
 rw [b4] at nb
 unfold idC qgg
 simp only [Bool.and_eq_true,decide_eq_true_eq]
 constructor
 ·intro h
  obtain ⟨h1,h2⟩:=qpw _ _ _ _ na nb h
  exact ⟨h1,qoY h2⟩
 ·rintro ⟨h1,h2⟩
  rw [h1,h2]
def qui (ks:List (List UInt8)):Nat→List (List UInt8×Int)
 |0=>[]
 |n+1=>match ks[n]? with
  |none=>qui ks n
  |some k=>qnP (qui ks n) k (n:Int)
def qqs (ks:List (List UInt8)) (k:List UInt8):Nat→Int
 |0=>0
 |n+1=>if ks[n]? =some k then (n:Int) else qqs ks k n
theorem qmQ (ks:List (List UInt8)) (k:List UInt8):(n:Nat)→qja (qui ks n) k 0=qqs ks k n
 |0=>by simp only [qui,qqs,qrj]
 |n+1=>by
  simp only [qui,qqs]
  cases h:ks[n]? with
  |none=>simp only [qmQ ks k n]; rw [if_neg (by simp)]
  |some k'=>
   simp only [qnp,qmQ ks k n]
   by_cases hq:k'=k
   ·rw [if_pos hq,if_pos (by rw [hq])]
   ·rw [if_neg hq,if_neg (fun e=>hq (Option.some.inj e))]
theorem qpZ (ks:List (List UInt8)) {i:Nat} {k:List UInt8} (hi:ks[i]? =some k):(m:Nat)→(qqs ks k (i+1+m)=(i:Int)↔∀j,i<j→j<i+1+m→ks[j]? ≠some k)
 |0=>by
  simp only [Nat.add_zero,qqs,hi,if_true,true_iff]
  intro j h1 h2; omega
 |m+1=>by
  have ih:=qpZ ks hi m
  rw [show i+1+(m+1)=(i+1+m)+1 by omega]
  simp only [qqs]
  by_cases hq:ks[i+1+m]? =some k
  ·rw [if_pos hq]
   constructor
   ·intro h; omega
   ·intro h; exact absurd hq (h _ (by omega) (by omega))
  ·rw [if_neg hq,ih]
   constructor
   ·intro h j h1 h2
    by_cases hj:j=i+1+m
    ·rw [hj]; exact hq
    ·exact h j h1 (by omega)
   ·intro h j h1 h2
    exact h j h1 (by omega)
theorem qs0 {s:qc} {cs:List qcK} (hv:qkl s) (hall:∀c∈cs,qkT s c=0) {i:Nat} (hi:i<cs.length):eqI (qja (qui (cs.map (idC s)) cs.length) (idC s cs[i]) 0) (i:Int)= !((cs.drop (i+1)).any (fun l=>qgg s l cs[i])):=by
 have hg:(cs.map (idC s))[i]? =some (idC s cs[i]):=by simp [hi]
 obtain ⟨m,hm⟩:∃m,cs.length=i+1+m:=⟨cs.length - (i+1),by omega⟩
 have hl:=qpZ (cs.map (idC s)) hg m
 rw [←hm] at hl
 rw [qmQ,qb7]
 cases ha:(cs.drop (i+1)).any (fun l=>qgg s l cs[i]) with
 |false=>
  refine decide_eq_true (hl.2 fun j h1 h2 hq=> ?_)
  simp only [List.getElem?_map,List.getElem?_eq_getElem h2,Option.map_some,Option.some.injEq] at hq
  have hs:=(qvO hv (hall _ (List.getElem_mem h2)) (hall _ (List.getElem_mem hi))).1 hq
  rw [List.any_eq_false] at ha
  refine ha _ ?_ hs
  rw [List.mem_iff_getElem]
  exact ⟨j - (i+1),by rw [List.length_drop]; omega,by rw [List.getElem_drop]; congr 1; omega⟩
 |true=>
  refine decide_eq_false fun hq=> ?_
  obtain ⟨l,hm2,hs⟩:=List.any_eq_true.1 ha
  obtain ⟨j,hj,rfl⟩:=List.getElem_of_mem hm2
  rw [List.length_drop] at hj
  rw [List.getElem_drop] at hs
  refine hl.1 hq (i+1+j) (by omega) (by omega) ?_
  simp only [List.getElem?_map,List.getElem?_eq_getElem (show i+1+j<cs.length by omega),Option.map_some,Option.some.injEq]
  exact (qvO hv (hall _ (List.getElem_mem _)) (hall _ (List.getElem_mem hi))).2 hs
theorem qvE (N:Nat) (s:qc) (cs:List qcK) (hs:qdC N s) (hc:qhH N s cs) {c:qcK} (hm:c∈cs) (hv:qkT s c=0):qai N (c,(s,()))=some ((idC s c,()),()):=by
 obtain ⟨i,t,hi,a1,a2,a3,a4,a5⟩:=qc9 hv
 have he:=hc.et c hm t (qbR a2)
 have ht:qjg s c=qnE t c:=by rw [qjg,a5]
 have hnm:=hc.nm c hm
 have r1:qc2 (qn c.2.1) (qn ([47]:List UInt8)) 1=true:=qeo (by simp; omega)
 have r2:qc2 (qn (c.2.1++([47]:List UInt8))) (qn (qeA (qnE t c))) 1=true:=qeo (by simp; omega)
 simp only [qai,qeJ N s c hs a2,ht,qmA N _ he,qd,qg,r1,r2,Bool.and_self,cond_true,qcy,idC]
theorem qvS (N:Nat) (s:qc) (cs:List qcK) (hs:qdC N s) (hid:∀f∈s.2.1,(fkC f).length≤1099511627776) (hc:qhH N s cs) (h:qec s cs=0):
  ∃out,qaO N (s,(cs,()))=some ((out,(0,())),())∧qaG N (s,(cs,()))=some ((out,(0,())),())∧out.length≤cs.length∧(∀c∈out,c∈cs)∧qkf zChg N (qfq s cs cs.length,(psiC N s,()))=some ((),(out,())):=by
 have hn:=hs.sm.n
 have hcl:=hc.n
 obtain ⟨h0,hall⟩:=qiO h
 have hv:=qpa h0
 have hk:=qh2 hv.tabs
 have hlen:=qim s cs cs.length
 obtain ⟨out,s1,s2,s3,s4⟩:=qul zChg (alikeC N s cs hs hv hc hall) (ys:=qfq s cs cs.length) (N:=N) (by omega) (by omega) (qj5 s cs cs.length)
 refine ⟨out,?_,?_,by omega,s4,s2⟩
 ·simp only [qaO,qJ,qm7 N s hs,h0,qd,qg,cond_true,neF (rfl:(0:Int)=0),cond_false]
  refine qe7 (S:=Int×Unit) (fun i=>((i:Int),())) cs.length _ rfl (fun i hi ih=> ?_) (fun ih=> ?_) (by omega)
  ·have hm:=List.getElem_mem hi
   simp only [qbt hi,qZ hi,cond_true,qX _ hi,qao (show i<4611686018427387904 by omega),qmT N s _ hs hk (hc.key _ hm) (hc.row _ hm),hall _ hm,qd,qg,neF (rfl:(0:Int)=0),cond_false]
  ·simp only
   rw [qM (qaX (Nat.lt_irrefl _))]
   refine qe7 (S:=List qcK×(Int×Unit)) (fun i=>(qfq s cs i,((i:Int),()))) cs.length _ rfl (fun i hi ih=> ?_) (fun ih=> ?_) (by omega)
   ·have hm:=List.getElem_mem hi
    have hkl:=qim s cs i
    rw [qkU hi]
    have el:qaI cs (((i+1:Nat)):Int) (qn cs)=cs.drop (i+1):=by rw [qcF,qr]; simp
    have ei:=qrl (xs:=cs) (i:=i+1) (by omega)
    simp only [qbt hi,qZ hi,cond_true,qX _ hi,qao (show i<4611686018427387904 by omega),el,ei]
    generalize hce:cs[i]=c at *
    obtain ⟨q,t,hq,a1,a2,a3,a4,a5⟩:=qc9 (hall c hm)
    have ht:=hs.tab (qbR a2)
    have g:∀d,qf s.1 ((q:Nat):Int) d=t:=fun d=>by rw [qX _ hq,a3]
    have hcon:qap N (cs.drop (i+1),((fun x6=>(qf8 (fun y7:((Bool×Unit)×Unit)=>(y7.1.1,())) (qb5 N (x6.1,(c,(t,())))))),()))=some (((cs.drop (i+1)).any (fun l=>qgg s l c),()),()):=
     qnt N _ (fun l=>qgg s l c) _ (fun a ha=>by
      simp only [qqT N s a c a5 ht.k (hc.key a (List.mem_of_mem_drop ha)) (hc.key c hm) hn,qbX,Option.map_some]) (by rw [List.length_drop]; omega) hn
    have r1:qc2 (qn (qfq s cs i)) (qn ([(c.1,(c.2.1,(c.2.2.1,(c.2.2.2.1,()))))]:List qcK)) 72=true:=qeo (by simp; omega)
    have hk1:=hc.key c hm
    have hk2:=hc.row c hm
    simp only [qcP N s c.2.1 hs.sm.t hn,a1,qd,qg,Option.getD_some,cond_true,qZ hq,g,hcon,Bool.and_self,qmR N c.2.2.1 (by omega),qmR N c.2.2.2.1 (by omega),r1,qcy]
    cases (cs.drop (i+1)).any (fun l=>qgg s l c) with
    |true=>simp only [Bool.not_true,cond_false,cond_true,if_true,List.append_nil]
    |false=>simp only [Bool.not_false,cond_true,Bool.false_eq_true,if_false]
   ·simp only
    rw [qM (qaX (Nat.lt_irrefl _))]
    have s1':qT N (qfq s cs cs.length,((fun x5=>(qf8 (fun y6:((Int×Unit)×Unit)=>(y6.1.1,())) (qb6 N (x5.1,(x5.2.1,(s,())))))),()))=some ((),(out,())):=s1
    simp only [s1',qd,qg,cond_true]
 ·have hcc:qbf N (s,(cs,()))=some ((out,()),()):=by
   simp only [qbf,qJ]
   refine qe7 (S:=List (List UInt8×Int)×(Int×Unit)) (fun i=>(qui (cs.map (idC s)) i,((i:Int),()))) cs.length _ rfl (fun i hi ih=> ?_) (fun ih=> ?_) (by omega)
   ·have hm:=List.getElem_mem hi
    have hp:qui (cs.map (idC s)) (i+1)=qnP (qui (cs.map (idC s)) i) (idC s cs[i]) (i:Int):=by
     simp only [qui,List.getElem?_map,List.getElem?_eq_getElem hi,Option.map_some]
    rw [hp]
    simp only [qbt hi,qZ hi,cond_true,qX _ hi,qao (show i<4611686018427387904 by omega),qvE N s cs hs hc hm (hall _ hm),qbX,Option.map_some,qd,qg]
   ·simp only
    rw [qM (qaX (Nat.lt_irrefl _))]
    refine qe7 (S:=List (List UInt8×Int)×(List qcK×(Int×Unit))) (fun i=>(qui (cs.map (idC s)) cs.length,(qfq s cs i,((i:Int),())))) cs.length _ rfl (fun i hi ih=> ?_) (fun ih=> ?_) (by omega)
    ·have hm:=List.getElem_mem hi
     have hkl:=qim s cs i
     have hlk:=qs0 hv hall hi
     rw [qkU hi]
     have r1:qc2 (qn (qfq s cs i)) (qn ([cs[i]]:List qcK)) 72=true:=qeo (by simp; omega)
     simp only [qbt hi,qZ hi,cond_true,qX _ hi,qao (show i<4611686018427387904 by omega),qvE N s cs hs hc hm (hall _ hm),qbX,Option.map_some,qd,qg,hlk,r1,qcy]
     cases (cs.drop (i+1)).any (fun l=>qgg s l cs[i]) with
     |true=>simp only [Bool.not_true,cond_false,cond_true,if_true,List.append_nil]
     |false=>simp only [Bool.not_false,cond_true,Bool.false_eq_true,if_false]
    ·simp only
     rw [qM (qaX (Nat.lt_irrefl _))]
     have s2':qT N (qfq s cs cs.length,((fun x5=>(qf8 (fun y6:((Int×Unit)×Unit)=>(y6.1.1,())) (qau N (x5.1,(x5.2.1,(s,())))))),()))=some ((),(out,())):=s2
     simp only [s2',qd,qg,cond_true]
  simp only [qaG,qJ,qpY N s hs hid,h0,qd,qg,cond_true,neF (rfl:(0:Int)=0),cond_false]
  refine qe7 (S:=Int×Unit) (fun i=>((i:Int),())) cs.length _ rfl (fun i hi ih=> ?_) (fun ih=> ?_) (by omega)
  ·have hm:=List.getElem_mem hi
   simp only [qbt hi,qZ hi,cond_true,qX _ hi,qao (show i<4611686018427387904 by omega),qpj N s _ hs hk (hc.key _ hm) (hc.row _ hm),hall _ hm,qd,qg,neF (rfl:(0:Int)=0),cond_false]
  ·simp only
   rw [qM (qaX (Nat.lt_irrefl _))]
   simp only [hcc,qd,qg,cond_true]
end
end Go.Proofs.YtfcdfdnlgfebmaaGreatDoor
namespace Go.Proofs.YtfcdfdnlgfebmaaGreatDoor
open Go.Vi
noncomputable section
theorem chg_eq (a b:qcK):(((decide (a.1=b.1)&&decide (a.2.1=b.2.1))&&decide (a.2.2.1=b.2.2.1))&&decide (a.2.2.2.1=b.2.2.2.1))=decide (a=b):=by
 obtain ⟨a1,a2,a3,a4,⟨⟩⟩:=a
 obtain ⟨b1,b2,b3,b4,⟨⟩⟩:=b
 rw [←Bool.decide_and,←Bool.decide_and,←Bool.decide_and]
 exact decide_eq_decide.2 (by simp only [Prod.mk.injEq,and_true]; constructor <;> simp+contextual)
theorem encEq (x y:qbA):decide (qeA x=qeA y)=decide (x=y):=by
 by_cases h:x=y
 ·simp [h]
 ·have:qeA x≠qeA y:=fun e=>h (qoY e)
  simp [h,this]
structure ESmall (cs:List qcK):Prop where
 ek:∀c∈cs,(qeA c.2.2.1).length≤1099511627776
 er:∀c∈cs,(qeA c.2.2.2.1).length≤1099511627776
def confB (s:qc) (d c:qcK):Bool:=qgg s d c&&(decide (d.1≠c.1)|| !decide (d.2.2.2.1=c.2.2.2.1))
def refB (s:qc) (c d:qcK):Bool:=qgg s c d&& !decide (c=d)
theorem conf_ref {s:qc} {c d:qcK} (hc:qkT s c=0) (hd:qkT s d=0):confB s d c=refB s c d:=by
 have kinds:∀ {c:qcK},qkT s c=0→(c.1=1→c.2.2.1=[])∧(c.1=1∨c.1=2):=fun {c} h=>by
  unfold qkT at h
  split at h
  ·cases h
  rename_i hb
  have hb:quY c=false:=by simpa using hb
  unfold quY at hb
  simp only [Bool.or_eq_false_iff,Bool.and_eq_false_iff,decide_eq_false_iff_not,Bool.not_eq_false',decide_eq_true_eq] at hb
  refine ⟨fun h1=> ?_,?_⟩
  ·rcases hb.1.1 with h2|h2
   ·exact absurd h1 h2
   ·exact List.length_eq_zero_iff.1 (by omega)
  ·exact hb.2
 obtain ⟨c1,c2⟩:=kinds hc
 obtain ⟨d1,d2⟩:=kinds hd
 have sym:qgg s d c=qgg s c d:=by
  unfold qgg
  rw [decide_eq_decide.2 (eq_comm (a:=d.2.1)),decide_eq_decide.2 (eq_comm (a:=qjg s d))]
 unfold confB refB
 rw [sym]
 cases hs:qgg s c d with
 |false=>rfl
 |true=>
  unfold qgg at hs
  simp only [Bool.and_eq_true,decide_eq_true_eq] at hs
  obtain ⟨h1,h2⟩:=hs
  have key:(¬d.1≠c.1∧d.2.2.2.1=c.2.2.2.1)↔c=d:=by
   constructor
   ·rintro ⟨k1,k2⟩
    have k1:d.1=c.1:=by omega
    have k3:c.2.2.1=d.2.2.1:=by
     rcases c2 with q|q
     ·rw [c1 q,d1 (by omega)]
     ·unfold qjg qnE at h2
      rw [if_neg (by omega),if_neg (by omega)] at h2
      exact h2
    obtain ⟨a1,a2,a3,a4,⟨⟩⟩:=c
    obtain ⟨b1,b2,b3,b4,⟨⟩⟩:=d
    simp only at k1 k2 k3 h1
    subst k1; subst k2; subst k3; subst h1
    rfl
   ·rintro rfl
    exact ⟨fun h=>h rfl,rfl⟩
  by_cases hq:c=d
  ·obtain ⟨k1,k2⟩:=key.2 hq
   simp [hq]
  ·have:¬(¬d.1≠c.1∧d.2.2.2.1=c.2.2.2.1):=fun h=>hq (key.1 h)
   simp only [hq,decide_false,Bool.not_false,Bool.and_true,Bool.true_and]
   by_cases k1:d.1=c.1
   ·have k2:¬d.2.2.2.1=c.2.2.2.1:=fun h=>this ⟨fun h2=>h2 k1,h⟩
    simp [k2]
   ·simp [k1]
abbrev qsE:Ty:= .pair (.int .i64) (.pair .str (.pair (.slice qiZ) (.pair (.slice qiZ) .unit)))
theorem qiQ (c:qcK):qsE.bulk c=1+(c.2.1.length+1+((c.2.2.1.map qiZ.bulk).sum+1+((c.2.2.2.1.map qiZ.bulk).sum+1+1))):=by
 obtain ⟨c1,c2,c3,c4,⟨⟩⟩:=c; rfl
theorem qty {r:qbA} (hg:∀v∈r,qiZ.good v) (hb:(r.map qiZ.bulk).sum≤1048576):(qeA r).length≤1099511627776:=by
 have h3:=rlen r
 exact qiR (a:=r.length) (b:=1048576 - r.length) (Nat.le_refl _) (by omega) fun v hv=>⟨hg v hv,by have:=qky r v hv; omega⟩
theorem quc {s:qc} {cs:List qcK} (hg:(Ty.slice qsE).good cs) (hb:qvd.bulk s+(Ty.slice qsE).bulk cs≤1048577):qhH 5000000 s cs:=by
 have e:(Ty.slice qsE).bulk cs=(cs.map qsE.bulk).sum+1:=rfl
 have hl:=qjH qsE.bulk cs fun x _=>qe4 qsE x
 have hone:∀c∈cs,qsE.bulk c≤(cs.map qsE.bulk).sum:=fun c hc=>qgF qsE.bulk hc
 have good:∀c∈cs,(∀v∈c.2.2.1,qiZ.good v)∧∀v∈c.2.2.2.1,qiZ.good v:=fun c hc=>by
  have h:=hg.2 c hc
  obtain ⟨c1,c2,c3,c4,⟨⟩⟩:=c
  exact ⟨h.2.2.1.2,h.2.2.2.1.2⟩
 refine ⟨by omega,fun c hc=> ?_,fun c hc=> ?_,fun c hc=> ?_,fun c hc=> ?_,fun c hc t ht=> ?_,fun c hc=> ?_⟩
 ·have:=hone c hc; rw [qiQ] at this; have:=rlen c.2.2.1; omega
 ·have:=hone c hc; rw [qiQ] at this; have:=rlen c.2.2.2.1; omega
 ·have:=hone c hc; rw [qiQ] at this; exact qty (good c hc).1 (by omega)
 ·have:=hone c hc; rw [qiQ] at this; exact qty (good c hc).2 (by omega)
 ·have h1:=hone c hc
  rw [qiQ] at h1
  unfold qnE
  split
  ·have h2:qnW.bulk t≤qvd.bulk s:=by
    obtain ⟨x,y,z,⟨⟩⟩:=s
    rw [qkO]
    have:=qgF qnW.bulk ht
    simp only at this
    omega
   refine qiR (a:=qnW.bulk t) (b:=(c.2.2.2.1.map qiZ.bulk).sum) (by rw [ql2,qow,qed]; omega) (by omega) fun v hv=> ?_
   obtain ⟨i,_,rfl⟩:=List.mem_map.1 hv
   rcases qpB c.2.2.2.1 i with hm|hm
   ·exact ⟨(good c hc).2 _ hm,by have:=qky c.2.2.2.1 _ hm; omega⟩
   ·rw [hm]; exact ⟨⟨qc4,qc4,Nat.zero_le _,trivial⟩,Nat.zero_le _⟩
  ·exact qty (good c hc).1 (by omega)
 ·have:=hone c hc; rw [qiQ] at this; omega
theorem qdC.mono {N M:Nat} {s:qc} (h:qdC N s) (hNM:N≤M) (hM:M≤1099511627776):qdC M s:=by
 obtain ⟨⟨_,t,f,c,tc,tk,fc,tn,cn⟩,m⟩:=h
 exact ⟨⟨hM,by omega,by omega,by omega,fun x hx=>Nat.lt_of_lt_of_le (tc x hx) hNM,fun x hx=>Nat.lt_of_lt_of_le (tk x hx) hNM,fun x hx=>Nat.lt_of_lt_of_le (fc x hx) hNM,fun x hx=>Nat.lt_of_lt_of_le (tn x hx) hNM,fun x hx y hy=>Nat.lt_of_lt_of_le (cn x hx y hy) hNM⟩,by omega⟩
theorem qhH.enc {N:Nat} {s:qc} {cs xs:List qcK} (h:qhH N s cs) (hx:∀c∈xs,c∈cs):ESmall xs:=
 ⟨fun c hc=>h.ek c (hx c hc),fun c hc=>h.er c (hx c hc)⟩
theorem quV (N:Nat) (s:qc) (cs:List qcK) (hs:qdC N s) (hid:∀f∈s.2.1,(fkC f).length≤1099511627776) (hc:qhH N s cs):
  ∃out,qaO N (s,(cs,()))=some ((out,(qec s cs,())),())∧qaG N (s,(cs,()))=some ((out,(qec s cs,())),())∧out.length≤cs.length∧∀c∈out,c∈cs:=by
 by_cases h:qec s cs=0
 ·obtain ⟨out,h1,h2,h3,h4,_⟩:=qvS N s cs hs hid hc h
  rw [h]
  exact ⟨out,h1,h2,h3,h4⟩
 ·obtain ⟨h1,h2⟩:=qv2 N s cs hs hid hc h
  exact ⟨[],h1,h2,Nat.zero_le _,fun c hc=>by cases hc⟩
end
end Go.Proofs.YtfcdfdnlgfebmaaGreatDoor
namespace Go.Proofs.YtfcdfdnlgfebmaaGreatDoor
open Go.Vi
noncomputable section
abbrev Nm:Type:=List UInt8
theorem qiB (a b:Nm):qcf a b=true∨a=b∨qcf b a=true:=by
 have h:=qmP a b
 rw [qbg] at h
 by_cases e:a=b
 ·exact .inr (.inl e)
 ·cases h1:qcf a b
  ·cases h2:qcf b a
   ·rw [h1,h2,decide_eq_false e] at h; cases h
   ·exact .inr (.inr rfl)
  ·exact .inl rfl
theorem qwB (N:Nat) (a b:Nm):qw N (a,(b,()))=some ((qcf a b,()),()):=by
 have h:∀x:Nm,qba N (x,())=some ((false,()),()):=fun x=>by
  simp only [qba,qbg,decide_true,Bool.not_true]
 simp only [qw,h,qd,qg,Bool.or_true,Bool.and_self,cond_true,Bool.false_and,Bool.false_or]
abbrev phi0:(Nm×(Nm×Unit))→Option (Int×Unit):=fun x=>some ((bif qcf x.1 x.2.1 then -1 else 0),())
theorem quW (b:Bool):ltI (bif b then (-1) else 0) 0=b:=by
 cases b
 ·exact ltF (by simp)
 ·exact ltT (by simp)
theorem qt5 (N:Nat) (xs:List Nm) (a b:Int):qab N (xs,(a,(b,())))=qfA ([]:Nm) N (xs,(a,(b,(phi0,())))):=by
 simp only [qab,qfA,qwB,qd,qg,quW]
theorem cmp0:Cmp (fun _:Nm=>True) phi0 (fun a b=>¬qcf b a=true) where
 ans a b _ _:=by
  refine ⟨_,rfl,?_⟩
  cases h:qcf a b <;> simp
 tot a b _ _:=by
  by_cases h:qcf b a=true
  ·right; intro h2
   have:=qdR h h2
   rw [qci] at this; cases this
  ·exact .inl h
 trans a b c _ _ _ h1 h2 h3:=by
  rcases qiB b a with e|e|e
  ·exact h1 e
  ·subst e; exact h2 h3
  ·exact h2 (qdR h3 e)
theorem lenOk (N:Nat):qsm (qbD N):=fun k hk=>by
 obtain ⟨e,h1,h2⟩:=qtG k hk
 refine ⟨e,?_,h2⟩
 have h1':qdg N ((k:Int),())=some (((e:Int),()),()):=h1
 simp only [qbD,h1',qd,qg,cond_true]
abbrev qiy (xs:List Nm):Prop:=xs.Pairwise (fun a b=>qcf a b=true)
theorem qwa (N:Nat) (xs:List Nm) (hl:xs.length≤12) (hN:100<N) (hn:xs.Nodup):∃out,qbG N (xs,())=some ((),(out,()))∧out.Perm xs∧qiy out:=by
 obtain ⟨M,hM⟩:∃M,N=M+1:=⟨N - 1,by omega⟩
 obtain ⟨e,l1,-,-⟩:=lenOk N xs.length (by omega)
 obtain ⟨out,o1,o2,o3⟩:=qiX (n:=xs.length) (N:=N) ([]:Nm) cmp0 (by omega) (by omega) (xs:=xs) ⟨rfl,fun _ _=>trivial⟩ (a:=0) (b:=(xs.length:Int)) (Int.le_refl 0) (by omega) (Int.le_refl _)
 have hins:qab N (xs,(0,((xs.length:Int),())))=some ((),(out,())):=by rw [qt5]; exact o1
 have eA:qcr .u64 (xs.length:Int)=(xs.length:Int):=by rw [qd7,qeT (by omega) (by omega)]
 have es:qE .i64 (xs.length:Int) 0=(xs.length:Int):=by rw [qak (by omega) (by omega)]; omega
 have le:leI (xs.length:Int) 12=true:=leT (by omega)
 have hp:qaJ N (xs,(0,((xs.length:Int),((e:Int),()))))=some ((),(out,())):=by
  rw [hM] at hins⊢
  simp only [qaJ,qbb]
  rw [qcG]
  simp only [qJ,es,le,cond_true,hins,qd,qg]
 refine ⟨out,?_,o2.perm,?_⟩
 ·simp only [qbG,qJ,qr,eA,l1,qd,qg,hp,Bool.and_self,cond_true]
 ·have hlen:=o2.perm.length_eq
  have hnd:out.Nodup:=o2.perm.nodup_iff.2 hn
  rw [qiy,List.pairwise_iff_getElem]
  intro i j hi hj hij
  have h:=o3 i j (by omega) (by omega) (by omega)
  rw [qX _ hi,qX _ hj] at h
  have hne:out[i]≠out[j]:=fun e=>(List.pairwise_iff_getElem.1 (List.nodup_iff_pairwise_ne.1 hnd) i j hi hj hij) e
  rcases qiB out[i] out[j] with q|q|q
  ·exact q
  ·exact absurd q hne
  ·exact absurd q h
theorem qlE: {a b:List Nm} →qiy a→qiy b→(∀x,x∈a↔x∈b)→a=b
 |[],b,_,_,h=>by
  have:b=[]:=List.eq_nil_iff_forall_not_mem.2 fun x hx=>by have:=(h x).2 hx; cases this
  rw [this]
 |x::a,[],_,_,h=>by have:=(h x).1 List.mem_cons_self; cases this
 |x::a,y::b,ha,hb,h=>by
  have ca:=List.pairwise_cons.1 ha
  have cb:=List.pairwise_cons.1 hb
  have hxy:x=y:=by
   rcases List.mem_cons.1 ((h x).1 List.mem_cons_self) with e|hx
   ·exact e
   ·rcases List.mem_cons.1 ((h y).2 List.mem_cons_self) with e|hy
    ·exact e.symm
    ·have:=qdR (ca.1 y hy) (cb.1 x hx)
     rw [qci] at this; cases this
  subst hxy
  rw [qlE ca.2 cb.2 fun z=>by
   have hz:=h z
   constructor
   ·intro hza
    rcases List.mem_cons.1 (hz.1 (List.mem_cons_of_mem _ hza)) with e|hz2
    ·subst e
     have:=ca.1 z hza
     rw [qci] at this; cases this
    ·exact hz2
   ·intro hzb
    rcases List.mem_cons.1 (hz.2 (List.mem_cons_of_mem _ hzb)) with e|hz2
    ·subst e
     have:=cb.1 z hzb
     rw [qci] at this; cases this
    ·exact hz2]
theorem qtc (N:Nat) (xs:List Nm) (c:Nm) (hN:xs.length<N) (hb:xs.length≤1099511627776):qb1 N (xs,(c,()))=some ((qkS (fun x=>decide (c=x)) xs,()),()):=by
 simp only [qb1]
 refine (qan (S:=Int×Unit) (fun i=>((i:Int),())) xs.length (atE (fun x=>decide (c=x)) xs) (fun i=>some (((i:Int),()),())) (some ((-1,()),())) rfl (fun i hi _ ih=> ?_) (fun _ ih=> ?_) hN).trans ?_
 ·simp only
  rw [qG (qbt hi),qG (qZ hi),qX _ hi,qao (by omega)]
  simp only [atE,List.getElem?_eq_getElem hi,qbg,qaY,decide_eq_true_eq]
  split <;> rename_i hq <;> simp [hq]
 ·simp only
  rw [qM (qaX (Nat.lt_irrefl _))]
 ·rw [qkS,qjU]
  cases qaf (atE (fun x=>decide (c=x)) xs) xs.length <;> rfl
theorem qlC (N:Nat) (xs:List Nm) (c:Nm) (hN:xs.length<N) (hb:xs.length≤1099511627776):qal N (xs,(c,()))=some ((decide (c∈xs),()),()):=by
 simp only [qal,qtc N xs c hN hb,qd,qg,cond_true,qlh,qjZ]
 congr 3
 rw [Bool.eq_iff_iff]
 simp
theorem qum (N:Nat) (xs:List Nm) (hN:xs.length<N) (hb:xs.length≤1099511627776):qb2 N (xs,(xs,()))=some ((true,()),()):=by
 simp only [qb2]
 rw [neF rfl,cond_false]
 refine qe7 (S:=Int×Unit) (fun i=>((i:Int),())) xs.length _ rfl (fun i hi ih=> ?_) (fun ih=> ?_) hN
 ·simp only [qbt hi,qZ hi,qX _ hi,qbg,decide_true,Bool.not_true,Bool.and_self,cond_true,cond_false,qao (show i<4611686018427387904 by omega)]
 ·simp only
  rw [qM (qaX (Nat.lt_irrefl _))]
def ddT (cs:List qcK):Nat→List Nm
 |0=>[]
 |n+1=>match cs[n]? with
  |none=>ddT cs n
  |some c=>if c.2.1∈ddT cs n then ddT cs n else ddT cs n++[c.2.1]
theorem qoA {cs:List qcK} {n:Nat} (h:n<cs.length):ddT cs (n+1)=if (cs[n]).2.1∈ddT cs n then ddT cs n else ddT cs n++[(cs[n]).2.1]:=by
 simp only [ddT,List.getElem?_eq_getElem h]
theorem qq3 (cs:List qcK):(n:Nat)→(ddT cs n).length≤n
 |0=>by simp [ddT]
 |n+1=>by
  have:=qq3 cs n
  simp only [ddT]
  split
  ·omega
  ·split
   ·omega
   ·simp; omega
theorem qq2 (cs:List qcK) (k:Nm):(n:Nat)→(k∈ddT cs n↔∃i c,i<n∧cs[i]? =some c∧c.2.1=k)
 |0=>by simp [ddT]
 |n+1=>by
  have ih:=qq2 cs k n
  cases hr:cs[n]? with
  |none=>
   simp only [ddT,hr]
   rw [ih]
   constructor
   ·rintro ⟨i,r,h1,h2⟩; exact ⟨i,r,by omega,h2⟩
   ·rintro ⟨i,r,h1,h2,h3⟩
    rcases Nat.lt_succ_iff_lt_or_eq.1 h1 with h1|rfl
    ·exact ⟨i,r,h1,h2,h3⟩
    ·rw [hr] at h2; cases h2
  |some r=>
   simp only [ddT,hr]
   have key:(∃i r',i<n+1∧cs[i]? =some r'∧r'.2.1=k)↔k∈ddT cs n∨r.2.1=k:=by
    rw [ih]
    constructor
    ·rintro ⟨i,r',h1,h2,h3⟩
     rcases Nat.lt_succ_iff_lt_or_eq.1 h1 with h1|rfl
     ·exact .inl ⟨i,r',h1,h2,h3⟩
     ·rw [hr] at h2; injection h2 with h2; subst h2; exact .inr h3
    ·rintro (⟨i,r',h1,h2⟩|h)
     ·exact ⟨i,r',by omega,h2⟩
     ·exact ⟨n,r,by omega,hr,h⟩
   rw [key]
   split
   ·rename_i hin
    constructor
    ·exact .inl
    ·rintro (h|rfl)
     ·exact h
     ·exact hin
   ·rw [List.mem_append,List.mem_singleton]
    exact or_congr_right eq_comm
theorem qm4 (cs:List qcK):(n:Nat)→(ddT cs n).Nodup
 |0=>by simp [ddT]
 |n+1=>by
  have ih:=qm4 cs n
  simp only [ddT]
  split
  ·exact ih
  ·split
   ·exact ih
   ·rename_i r _ hin
    rw [List.nodup_append]
    exact ⟨ih,by simp,fun a ha b hb e=>by
     rw [List.mem_singleton] at hb
     subst hb; subst e
     exact hin ha⟩
theorem qsV (cs:List qcK) (k:Nm):k∈ddT cs cs.length↔∃c∈cs,c.2.1=k:=by
 rw [qq2]
 constructor
 ·rintro ⟨i,c,_,h2,h3⟩; exact ⟨c,List.mem_of_getElem? h2,h3⟩
 ·rintro ⟨c,hc,h3⟩
  obtain ⟨i,hi,rfl⟩:=List.getElem_of_mem hc
  exact ⟨i,_,hi,List.getElem?_eq_getElem hi,h3⟩
theorem qqC {s:qc} {cs:List qcK} (hs:qp0 s=0) (hall:∀c∈cs,qkT s c=0) (n:Nat):(ddT cs n).length≤6:=by
 have h6:s.1.length≤6:=by
  unfold qp0 at hs
  split at hs
  ·cases hs
  ·omega
 have:=(qm4 cs n).length_le_of_subset (l₂:=s.1.map (fun t=>t.1)) (fun k hk=>by
  obtain ⟨i,c,_,h2,rfl⟩:=(qq2 cs k n).1 hk
  obtain ⟨j,t,hj,a1,a2,a3,a4,a5⟩:=qc9 (hall c (List.mem_of_getElem? h2))
  exact List.mem_map.2 ⟨t,qbR a2,a4⟩)
 rw [List.length_map] at this
 omega
def ltC (s:qc) (a b:qcK):Prop:=qcf a.2.1 b.2.1=true∨(a.2.1=b.2.1∧q9 (qjg s a) (qjg s b)<0)
theorem qqa {s:qc} {a b c:qcK} (h1:ltC s a b) (h2:ltC s b c):ltC s a c:=by
 rcases h1 with h1|⟨h1,h1'⟩
 ·rcases h2 with h2|⟨h2,_⟩
  ·exact .inl (qdR h1 h2)
  ·rw [h2] at h1; exact .inl h1
 ·rcases h2 with h2|⟨h2,h2'⟩
  ·rw [←h1] at h2; exact .inl h2
  ·exact .inr ⟨h1.trans h2,qck _ _ _ h1' h2'⟩
theorem qvV {s:qc} {a:qcK} :¬ltC s a a:=fun h=>by
 rcases h with h|⟨_,h⟩
 ·rw [qci] at h; cases h
 ·exact qcd _ h
theorem qv6 {s:qc} (a b:qcK) (h1:¬ltC s a b) (h2:¬ltC s b a):a.2.1=b.2.1∧qjg s a=qjg s b:=by
 have hn:a.2.1=b.2.1:=by
  rcases qiB a.2.1 b.2.1 with q|q|q
  ·exact absurd (.inl q) h1
  ·exact q
  ·exact absurd (.inl q) h2
 exact ⟨hn,cmp_eq (fun q=>h1 (.inr ⟨hn,q⟩)) (fun q=>h2 (.inr ⟨hn.symm,q⟩))⟩
theorem cmpPsi (N:Nat) (s:qc) (cs:List qcK) (hs:qdC N s) (hc:qhH N s cs) (hall:∀c∈cs,qkT s c=0):Cmp (fun c=>c∈cs) (psiC N s) (fun a b=>¬ltC s b a) where
 ans a b ha hb:=by
  have hn:=hs.sm.n
  obtain ⟨i,t,hi,a1,a2,a3,a4,a5⟩:=qc9 (hall a ha)
  obtain ⟨k,u,hk,b1,b2,b3,b4,b5⟩:=qc9 (hall b hb)
  have ht:=hs.tab (qbR a2)
  have l1:(qjg s a).length<N:=by rw [qjg,a5]; exact qqD ht.k (hc.key a ha)
  simp only [psiC,qau,qJ,qeJ N s a hs a2,qeJ N s b hs b2,qir N _ _ l1 hn,qd,qg,Bool.and_self,Bool.or_true,cond_true,qbX]
  have hdec:ltC s a b↔(qcf a.2.1 b.2.1=true∨(a.2.1=b.2.1∧q9 (qjg s a) (qjg s b)<0)):=Iff.rfl
  rcases qiB a.2.1 b.2.1 with q|q|q
  ·simp only [q,cond_true,Option.map_some]
   exact ⟨_,rfl,by simp [ltC,q]⟩
  ·have e1:qcf a.2.1 b.2.1=false:=by rw [q,qci]
   have e2:qcf b.2.1 a.2.1=false:=by rw [q,qci]
   have e3:eqS a.2.1 b.2.1=true:=by rw [qbg]; simp [q]
   simp only [e1,e2,e3,cond_false,cond_true,Bool.or_true,Bool.true_or,Bool.not_true,Bool.not_false,Option.map_some]
   exact ⟨_,rfl,by simp [qci,ltC,e1,q]⟩
  ·have e1:qcf a.2.1 b.2.1=false:=by
    cases hq:qcf a.2.1 b.2.1 with
    |false=>rfl
    |true=>have:=qdR hq q; rw [qci] at this; cases this
   have e3:eqS a.2.1 b.2.1=false:=by
    rw [qbg]
    refine decide_eq_false fun e=> ?_
    rw [e,qci] at q; cases q
   have e4:¬a.2.1=b.2.1:=fun e=>by rw [e,qci] at q; cases q
   simp only [q,e1,e3,cond_false,cond_true,Bool.or_self,Bool.not_false,Option.map_some]
   exact ⟨_,rfl,by simp [ltC,e1,e4]⟩
 tot a b _ _:=by
  by_cases h:ltC s b a
  ·right; intro h2; exact qvV (qqa h h2)
  ·exact .inl h
 trans a b c _ _ _ h1 h2 h3:=by
  by_cases e:ltC s a b
  ·exact h2 (qqa h3 e)
  ·obtain ⟨n1,k1⟩:=qv6 a b e h1
   refine h2 ?_
   rcases h3 with q|⟨q1,q2⟩
   ·rw [n1] at q; exact .inl q
   ·rw [n1] at q1; rw [k1] at q2; exact .inr ⟨q1,q2⟩
theorem qsg (N:Nat) (s:qc) (cs:List qcK) (hs:qdC N s) (hid:∀f∈s.2.1,(fkC f).length≤1099511627776) (hc:qhH N s cs) (h:qec s cs=0):
  ∃out,qaO N (s,(cs,()))=some ((out,(0,())),())∧qaG N (s,(cs,()))=some ((out,(0,())),())∧out.length≤cs.length∧(∀c∈out,c∈cs)∧out.Perm (qfq s cs cs.length)∧out.Pairwise (fun a b=>¬ltC s b a):=by
 obtain ⟨h0,hall⟩:=qiO h
 have hcl:=hc.n
 have hnn:=hs.sm.n
 have hlen:=qim s cs cs.length
 obtain ⟨o,h1,h2,h3,h4,s2⟩:=qvS N s cs hs hid hc h
 obtain ⟨out',t1,t2,t3⟩:=qrM zChg (cmpPsi N s cs hs hc hall) (xs:=qfq s cs cs.length) (N:=N) (by omega) (by omega) (qj5 s cs cs.length)
 have e:out'=o:=by
  rw [s2] at t1
  injection t1 with t1
  injection t1 with _ t1
  injection t1 with t1 _
  exact t1.symm
 subst e
 refine ⟨out',h1,h2,h3,h4,t2,List.pairwise_iff_getElem.2 fun i j hi hj hij=> ?_⟩
 have hl:=t2.length_eq
 have:=t3 i j (by omega) (by omega) (by omega)
 rwa [qX _ hi,qX _ hj] at this
theorem qtR {s:qc} {cs:List qcK} (k:Nm):(∃c∈qfq s cs cs.length,c.2.1=k)↔∃c∈cs,c.2.1=k:=by
 constructor
 ·rintro ⟨c,hc,h⟩; exact ⟨c,qj5 s cs _ c hc,h⟩
 ·rintro ⟨c,hc,h⟩
  have key:∀m:Nat,∀i (hi:i<cs.length),cs.length - i≤m→(cs[i]).2.1=k→∃j,∃hj:j<cs.length,(cs[j]).2.1=k∧(cs.drop (j+1)).any (fun l=>qgg s l cs[j])=false:=fun m=>by
   induction m with
   |zero=>intro i hi h1 _; omega
   |succ m ih=>
    intro i hi h1 h2
    cases ha:(cs.drop (i+1)).any (fun l=>qgg s l cs[i]) with
    |false=>exact ⟨i,hi,h2,ha⟩
    |true=>
     obtain ⟨l,hl,hsame⟩:=List.any_eq_true.1 ha
     obtain ⟨j,hj,rfl⟩:=List.getElem_of_mem hl
     rw [List.length_drop] at hj
     rw [List.getElem_drop] at hsame
     have hn:(cs[i+1+j]'(by omega)).2.1=k:=by
      unfold qgg at hsame
      simp only [Bool.and_eq_true,decide_eq_true_eq] at hsame
      rw [hsame.1]; exact h2
     exact ih (i+1+j) (by omega) (by omega) hn
  obtain ⟨i,hi,rfl⟩:=List.getElem_of_mem hc
  obtain ⟨j,hj,h1,h2⟩:=key cs.length i hi (by omega) h
  refine ⟨cs[j],?_,h1⟩
  have mono:∀d:Nat,∀x∈qfq s cs (j+1),x∈qfq s cs (j+1+d):=fun d=>by
   induction d with
   |zero=>intro x hx; exact hx
   |succ d ih=>
    intro x hx
    have:=ih x hx
    rw [←Nat.add_assoc]
    simp only [qfq]
    exact List.mem_append_left _ this
  have hin:cs[j]∈qfq s cs (j+1):=by
   rw [qkU hj,h2]
   simp
  have:=mono (cs.length - (j+1)) _ hin
  rwa [show j+1+(cs.length - (j+1))=cs.length by omega] at this
theorem qtB (N:Nat) (s:qc) (cs:List qcK) (hs:qdC N s) (hc:qhH N s cs):
  ∃T,qcY N (s,(cs,()))=some ((T,(qec s cs,())),())∧(qec s cs≠0→T=[])∧(qec s cs=0→qiy T∧T.length≤6∧∀k,k∈T↔∃c∈cs,c.2.1=k):=by
 have hn:=hs.sm.n
 have hcl:=hc.n
 have hm:=hs.m
 simp only [qcY,qJ,qm7 N s hs,qd,qg,cond_true]
 by_cases h0:qp0 s≠0
 ·have e:qec s cs=qp0 s:=by unfold qec; rw [if_pos h0]
  rw [e,neT h0]
  exact ⟨[],rfl,fun _=>rfl,fun h=>absurd h h0⟩
 have h0':qp0 s=0:=by omega
 rw [neF h0',cond_false]
 have hv:=qpa h0'
 have hk:=qh2 hv.tabs
 have ev:qec s cs=match qaf (qsq s cs) cs.length with
  |some e=>e
  |none=>0:=by unfold qec; rw [if_neg h0]; try (cases qaf (qsq s cs) cs.length <;> rfl)
 have few:∀n,(ddT cs n).length≤n:=qq3 cs
 obtain ⟨T,hT⟩:∃T,qbG N (ddT cs cs.length,())=some ((),(T,()))∧T.Perm (ddT cs cs.length)∧qiy T∨qec s cs≠0:=by
  by_cases hc0:qec s cs=0
  ·obtain ⟨_,hall⟩:=qiO hc0
   obtain ⟨out,o1,o2,o3⟩:=qwa N (ddT cs cs.length) (by have:=qqC h0' hall cs.length; omega) hm (qm4 _ _)
   exact ⟨out,.inl ⟨o1,o2,o3⟩⟩
  ·exact ⟨[],.inr hc0⟩
 have loop:∀(r:Option ((List Nm×(Int×Unit))×Unit)),(qec s cs=0→r=some ((T,(0,())),()))→(qec s cs≠0→r=some ((([]:List Nm),(qec s cs,())),()))→True:=fun _ _ _=>trivial
 refine ⟨if qec s cs=0 then T else [],?_,fun h=>if_neg h,fun h=> ?_⟩
 ·refine (qan (S:=List Nm×(Int×Unit)) (fun i=>(ddT cs i,((i:Int),()))) cs.length (qsq s cs) (fun e=>some ((([]:List Nm),(e,())),())) (some ((T,(0,())),())) rfl (fun i hi hf ih=> ?_) (fun hq ih=> ?_) (by omega)).trans ?_
  ·have hmem:=List.getElem_mem hi
   have hdl:=qq3 cs i
   simp only [qbt hi,qZ hi,cond_true,qX _ hi,qao (show i<4611686018427387904 by omega),qmT N s _ hs hk (hc.key _ hmem) (hc.row _ hmem),qd,qg,qm8 s cs hi]
   by_cases h1:qkT s cs[i]≠0
   ·rw [if_pos h1,neT h1]; rfl
   ·rw [if_neg h1,neF (by omega:qkT s cs[i]=0),cond_false,qoA hi]
    have rm:qc2 (qn (ddT cs i)) (qn ([(cs[i]).2.1]:List Nm)) 16=true:=qeo (by simp; omega)
    simp only [qlC N (ddT cs i) (cs[i]).2.1 (by omega) (by omega),qd,qg,cond_true,rm,qcy]
    by_cases hin:(cs[i]).2.1∈ddT cs i
    ·simp only [hin,decide_true,Bool.not_true,cond_false,cond_true,if_true]
    ·simp only [hin,decide_false,Bool.not_false,cond_true,if_false]
  ·simp only
   rw [qM (qaX (Nat.lt_irrefl _))]
   have hc0:qec s cs=0:=by rw [ev,hq]
   rcases hT with ⟨o1,_,_⟩|hne
   ·simp only [o1,qd,qg,cond_true]
   ·exact absurd hc0 hne
  ·cases hf:qaf (qsq s cs) cs.length with
   |none=>rw [hf] at ev; simp only [ev,if_true]
   |some e=>
    rw [hf] at ev
    obtain ⟨i,_,hi,_⟩:=qcS hf
    have hne:=qpp s cs i e hi
    simp only at ev
    simp only [ev,if_neg hne]
 ·rw [if_pos h]
  obtain ⟨_,hall⟩:=qiO h
  rcases hT with ⟨_,o2,o3⟩|hne
  ·refine ⟨o3,by rw [o2.length_eq]; exact qqC h0' hall _,fun k=> ?_⟩
   rw [o2.mem_iff,qsV]
  ·exact absurd h hne
def qgZ (s:qc) (n:Nm) (cs:List qcK):Nat→List qbA
 |0=>[]
 |m+1=>match cs[m]? with
  |none=>qgZ s n cs m
  |some c=>if c.2.1=n then qgZ s n cs m++[qjg s c] else qgZ s n cs m
theorem qn8 {s:qc} {n:Nm} {cs:List qcK} {m:Nat} (h:m<cs.length):qgZ s n cs (m+1)=if (cs[m]).2.1=n then qgZ s n cs m++[qjg s cs[m]] else qgZ s n cs m:=by
 simp only [qgZ,List.getElem?_eq_getElem h]
theorem qj7 (s:qc) (n:Nm) (cs:List qcK):(m:Nat)→(qgZ s n cs m).length≤m
 |0=>by simp [qgZ]
 |m+1=>by
  have:=qj7 s n cs m
  simp only [qgZ]
  split
  ·omega
  ·split
   ·simp; omega
   ·omega
theorem qka {s:qc} {n:Nm} {cs:List qcK} {r:qbA} :(m:Nat)→r∈qgZ s n cs m→∃c∈cs,r=qjg s c
 |0,h=>by cases h
 |m+1,h=>by
  simp only [qgZ] at h
  split at h
  ·exact qka m h
  ·rename_i c hc
   split at h
   ·rcases List.mem_append.1 h with h|h
    ·exact qka m h
    ·exact ⟨c,List.mem_of_getElem? hc,List.mem_singleton.1 h⟩
   ·exact qka m h
theorem qwz (N:Nat) (s:qc) (cs out:List qcK) (n:Nm) (hs:qdC N s) (hc:qhH N s cs) (h:qec s cs=0) (hout:qaO N (s,(cs,()))=some ((out,(0,())),())) (hol:out.length≤cs.length) (hom:∀c∈out,c∈cs):
  qcM N (s,(cs,(n,())))=some (((if qfj s n=none then [] else qgZ s n out out.length),((if qfj s n=none then 4 else 0),())),()):=by
 have hn:=hs.sm.n
 have hcl:=hc.n
 obtain ⟨_,hall⟩:=qiO h
 simp only [qcM,qJ,hout,qd,qg,cond_true,neF (rfl:(0:Int)=0),cond_false,qcP N s n hs.sm.t hn]
 rcases qem s n with ⟨g1,g2⟩|⟨i,t,g1,g2,hi,g3⟩
 ·simp only [g1,g2,Option.isSome_none,Bool.not_false,cond_true,if_true]
 ·have hne:¬qfj s n=none:=by rw [g2]; simp
  have ht:=hs.tab (qbR g2)
  simp only [g1,Option.isSome_some,Option.getD_some,Bool.not_true,cond_false,if_neg hne]
  refine qe7 (S:=List qbA×(Int×Unit)) (fun m=>(qgZ s n out m,((m:Int),()))) out.length _ rfl (fun m hm ih=> ?_) (fun ih=> ?_) (by omega)
  ·have hkl:=qj7 s n out m
   have hmem:=hom _ (List.getElem_mem hm)
   rw [qn8 hm]
   have rm:∀k:qbA,qc2 (qn (qgZ s n out m)) (qn ([k]:List qbA)) 24=true:=fun k=>qeo (by simp; omega)
   simp only [qbt hm,qZ hm,cond_true,qX _ hm,qao (show m<4611686018427387904 by omega),qbg]
   generalize out[m]=c at *
   by_cases q:c.2.1=n
   ·have etg:qjg s c=qnE t c:=by unfold qjg qrg; rw [q,g2]; rfl
    simp only [q,decide_true,Bool.not_true,cond_false,if_true,qZ hi,g3,qvF N t _ ht.k hn,qd,qg,rm,Bool.and_self,qcy,etg,qnE]
    by_cases q1:c.1=1
    ·simp only [eqT q1,cond_true,if_pos q1]
    ·simp only [eqF q1,cond_false,if_neg q1,cond_true]
   ·simp only [q,decide_false,Bool.not_false,cond_true,if_false]
  ·simp only
   rw [qM (qaX (Nat.lt_irrefl _))]
theorem law32 (x:qc×(List qcK×(List UInt8×Unit))) (hg:qmD [qaj,.slice qt,.str] x) (hb:qkZ [qaj,.slice qt,.str] x≤1048576):∃N z,qaS N x=some ((true,()),z):=by
 obtain ⟨s,cs,n,⟨⟩⟩:=x
 have gs:qvd.good s:=hg.1
 have ga:(Ty.slice qsE).good cs:=hg.2.1
 have hb':qvd.bulk s+((Ty.slice qsE).bulk cs+(Ty.str.bulk n+0))≤1048576:=hb
 have ss:=(qsI (s:=s) (by omega)).mono (M:=5000000) (by omega) (by omega)
 have ca:=quc (s:=s) ga (by omega)
 have gf:∀f∈s.2.1,TFk.good f:=by
  obtain ⟨a,b,c,⟨⟩⟩:=s
  exact gs.2.1.2
 have bf:∀f∈s.2.1,TFk.bulk f≤1048576:=fun f hf=>by
  obtain ⟨a,b,c,⟨⟩⟩:=s
  rw [qkO] at hb'
  have:=qgF TFk.bulk hf
  simp only at this
  omega
 obtain ⟨N,hNe⟩:∃N,N=5000000:=⟨_,rfl⟩
 rw [←hNe] at ss ca
 have hn:=ss.sm.n
 have hid:∀f∈s.2.1,(fkC f).length≤1099511627776:=fun f hf=>by have:=qq5 (gf f hf); have:=bf f hf; omega
 refine ⟨N,(),?_⟩
 have hna:=ca.n
 have l1:∀k:Int,eqI k k=true:=fun k=>eqT rfl
 have l2:∀k:Int,neI k k=false:=fun k=>neF rfl
 obtain ⟨T,t1,t2,t3⟩:=qtB N s cs ss ca
 by_cases hv:qec s cs≠0
 ·obtain ⟨A,a1,a2,a3,a4⟩:=quV N s cs ss hid ca
  have hT:=t2 hv
  subst hT
  have k1:qcM N (s,(cs,(n,())))=some ((([]:List qbA),(qec s cs,())),()):=by
   simp only [qcM,qJ,a1,qd,qg,cond_true,neT hv]
  have e0:eqI (qI .i64 (qn ([]:List Nm)) (qn ([]:List qbA))) 0=true:=by
   rw [qr,qr]
   have:qI .i64 ((([]:List Nm).length:Nat):Int) ((([]:List qbA).length:Nat):Int)=0:=by rw [qas (by simp) (by simp)]; rfl
   rw [this]; exact eqT rfl
  simp only [qaS,qJ,t1,k1,a2,qd,qg,cond_true,neT hv,l1,e0,Bool.and_self]
 have hv0:qec s cs=0:=by omega
 obtain ⟨out,a1,a2,a3,a4,a5,a6⟩:=qsg N s cs ss hid ca hv0
 obtain ⟨hT1,hT2,hT3⟩:=t3 hv0
 obtain ⟨h0,hall⟩:=qiO hv0
 rw [hv0] at t1
 have k1:=qwz N s cs out n ss ca hv0 a1 a3 a4
 have hTe:T=ddT out out.length:=by
  refine qlE hT1 ?_ fun k=> ?_
  ·
   have:∀m,m≤out.length→qiy (ddT out m)∧∀k∈ddT out m,∀j (hj:j<out.length),m≤j→qcf k (out[j]).2.1=true∨k=(out[j]).2.1:=fun m=>by
    induction m with
    |zero=>intro _; exact ⟨by simp [ddT],fun k hk=>by cases hk⟩
    |succ m ih=>
     intro hm
     obtain ⟨i1,i2⟩:=ih (by omega)
     have hmo:m<out.length:=by omega
     have nxt:∀j (hj:j<out.length),m+1≤j→qcf (out[m]).2.1 (out[j]).2.1=true∨(out[m]).2.1=(out[j]).2.1:=fun j hj hmj=>by
      have h:=List.pairwise_iff_getElem.1 a6 m j hmo hj (by omega)
      rcases qiB (out[m]).2.1 (out[j]).2.1 with q|q|q
      ·exact .inl q
      ·exact .inr q
      ·exact absurd (.inl q) h
     rw [qoA hmo]
     split
     ·exact ⟨i1,fun k hk j hj hmj=>i2 k hk j hj (by omega)⟩
     ·rename_i hin
      refine ⟨?_,fun k hk j hj hmj=> ?_⟩
      ·rw [qiy,List.pairwise_append]
       refine ⟨i1,by simp,fun a ha b hb=> ?_⟩
       rw [List.mem_singleton] at hb
       subst hb
       rcases i2 a ha m hmo (Nat.le_refl _) with q|q
       ·exact q
       ·subst q; exact absurd ha hin
      ·rcases List.mem_append.1 hk with hk|hk
       ·exact i2 k hk j hj (by omega)
       ·rw [List.mem_singleton] at hk
        subst hk
        exact nxt j hj hmj
   exact (this out.length (Nat.le_refl _)).1
  ·rw [hT3,qsV,←qtR (s:=s)]
   constructor
   ·rintro ⟨c,hc,h⟩; exact ⟨c,a5.mem_iff.2 hc,h⟩
   ·rintro ⟨c,hc,h⟩; exact ⟨c,a5.mem_iff.1 hc,h⟩
 have hfew:∀m,(ddT out m).length≤6:=fun m=>qqC h0 (fun c hc=>hall c (a4 c hc)) m
 have hkl:=qj7 s n out out.length
 have hke:∀r∈qgZ s n out out.length,(qeA r).length≤1099511627776:=fun r hr=>by
  obtain ⟨c,hc,rfl⟩:=qka _ hr
  obtain ⟨i,t,hi,b1,b2,b3,b4,b5⟩:=qc9 (hall c (a4 c hc))
  have:=ca.et c (a4 c hc) t (qbR b2)
  rw [qjg,b5]; exact this
 have eqr:=qpD N (qgZ s n out out.length) (qgZ s n out out.length) (by omega) hn hke hke
 have eqs:=qum N (ddT out out.length) (by have:=hfew out.length; omega) (by have:=hfew out.length; omega)
 simp only [qaS,qJ,t1,k1,a2,qd,qg,cond_true,l2,cond_false]
 refine qe7 (S:=List Nm×(List qbA×(Int×Unit))) (fun m=>(ddT out m,(qgZ s n out m,((m:Int),())))) out.length _ rfl (fun m hm ih=> ?_) (fun ih=> ?_) (by omega)
 ·have hml:=hfew m
  have hkl2:=qj7 s n out m
  have hmem:=a4 _ (List.getElem_mem hm)
  obtain ⟨i,t,hi,b1,b2,b3,b4,b5⟩:=qc9 (hall _ hmem)
  have af:=qeJ N s out[m] ss b2
  rw [qoA hm,qn8 hm]
  have rm1:qc2 (qn (ddT out m)) (qn ([(out[m]).2.1]:List Nm)) 16=true:=qeo (by simp; omega)
  have rm2:qc2 (qn (qgZ s n out m)) (qn ([qjg s out[m]]:List qbA)) 24=true:=qeo (by simp; omega)
  simp only [qbt hm,qZ hm,cond_true,qX _ hm,qao (show m<4611686018427387904 by omega),qlC N (ddT out m) (out[m]).2.1 (by omega) (by omega),qd,qg,rm1,rm2,af,qbg,qcy,Bool.and_self]
  by_cases q1:(out[m]).2.1∈ddT out m
  ·by_cases q2:(out[m]).2.1=n
   ·simp only [q1,q2,decide_true,Bool.not_true,cond_false,cond_true,if_true]
    rw [q2] at q1
    simp only [q1,decide_true,Bool.not_true,cond_false,cond_true,if_true]
   ·simp only [q1,q2,decide_true,decide_false,Bool.not_true,cond_false,cond_true,if_true,if_false]
  ·by_cases q2:(out[m]).2.1=n
   ·rw [q2] at q1
    simp only [q1,q2,decide_true,decide_false,Bool.not_false,cond_true,if_true,if_false]
   ·simp only [q1,q2,decide_false,Bool.not_false,cond_false,cond_true,if_false]
 ·simp only
  rw [qM (qaX (Nat.lt_irrefl _))]
  simp only [l2,hTe,eqs,qd,qg,Bool.or_true,cond_true,Bool.not_true,Bool.or_self,cond_false,qfM N s n ss.sm.t hn]
  cases ht:qfj s n with
  |none=>
   have e0:eqI (qn ([]:List qbA)) 0=true:=by rw [qr]; exact eqT rfl
   simp only [qgS,Bool.not_false,cond_true,if_true,l1,e0,Bool.and_self]
  |some t=>
   simp only [qd,Bool.not_true,cond_false,reduceCtorEq,if_false,l1,eqr,qg,Bool.or_true,cond_true,decide_true,Bool.and_self]
end
end Go.Proofs.YtfcdfdnlgfebmaaGreatDoor
